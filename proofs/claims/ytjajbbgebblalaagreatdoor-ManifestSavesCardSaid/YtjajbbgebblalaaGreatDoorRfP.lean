/-
  The document's disk, held against the program's (plain law): the files by name behind every call.
-/
/-
  The document's disk: restart.
-/
/-
  The document's disk: change, a create.
-/
import Derived.Test.YtjajbbgebblalaaGreatDoorRfA
import Derived.Test.YtjajbbgebblalaaGreatDoorLsC
import Derived.Sort.Walk0
import Derived.Test.YtjajbbgebblalaaGreatDoorFvB
import Derived.Test.YtjajbbgebblalaaGreatDoorStepsG
namespace Go.Proofs.YtjajbbgebblalaaGreatDoor
open Go.RowKit
set_option linter.unusedVariables false
set_option linter.unusedSimpArgs false
open Go.Maps
open Go.Sort
/-- A list of files by name. -/
def leV (a b : FV) : Bool := leB (bytesOf a.name) (bytesOf b.name)
def SrtV (l : List FV) : Prop := (l.Pairwise fun a b => leV a b = true) ∧ (l.map (·.name)).Nodup
theorem leB_anti {a b : List UInt8} (h1 : leB a b = true) (h2 : leB b a = true) : a = b := by
  simp only [leB, decide_eq_true_eq] at h1 h2
  exact List.le_antisymm h1 h2
theorem ba_list (a : ByteArray) : a.toList = bytesOf a := Lib.toList_data a
theorem ltN_le (a b : ByteArray) : ltN a b = !leB (bytesOf b) (bytesOf a) := by
  unfold ltN
  rw [Proofs.bytesLess_eq, ba_list, ba_list]
  unfold leB
  by_cases h : bytesOf b ≤ bytesOf a
  · rw [decide_eq_true h]
    by_cases h2 : bytesOf b < bytesOf a
    · simp [h2]
    · have : bytesOf b = bytesOf a := List.le_antisymm h (List.not_lt.1 h2)
      simp [this]
  · have h2 : ¬ bytesOf b < bytesOf a := fun hc => h (List.le_of_lt hc)
    have h3 : bytesOf b ≠ bytesOf a := fun hc => h (by rw [hc]; exact List.le_refl _)
    simp [h, h2, h3]
def putV (f : FV) : List FV → List FV
  | [] => [f]
  | x :: r => if ltN f.name x.name then f :: x :: r else x :: putV f r
def takeV (l : List FV) (nm : ByteArray) : List FV := l.filter fun h => decide (h.name ≠ nm)
theorem put_fv (f : HV) (l : List HV) : (putH f l).map (·.1) = putV f.1 (l.map (·.1)) := by
  induction l with
  | nil => rfl
  | cons x r ih =>
    unfold putH gtH
    rw [List.map_cons]
    unfold putV
    split <;> simp [ih]
theorem take_fv (l : List HV) (nm : ByteArray) : (takeH l nm).map (·.1) = takeV (l.map (·.1)) nm := by
  unfold takeH takeV
  rw [List.filter_map]
  rfl
theorem putV_perm (f : FV) (l : List FV) : (putV f l).Perm (f :: l) := by
  induction l with
  | nil => exact List.Perm.refl _
  | cons x r ih =>
    unfold putV
    split
    · exact List.Perm.refl _
    · exact (ih.cons x).trans (List.Perm.swap f x r)
theorem putV_pair {f : FV} {l : List FV} (h : l.Pairwise fun a b => leV a b = true) : (putV f l).Pairwise fun a b => leV a b = true := by
  induction l with
  | nil => simp [putV]
  | cons x r ih =>
    have hx := List.pairwise_cons.1 h
    unfold putV
    split
    · rename_i hlt
      rw [ltN_le] at hlt
      have hfx : leV f x = true := by
        have := leB_total (bytesOf f.name) (bytesOf x.name)
        unfold leV
        cases hc : leB (bytesOf f.name) (bytesOf x.name)
        · rw [hc, Bool.false_or] at this; rw [this] at hlt; cases hlt
        · rfl
      refine List.pairwise_cons.2 ⟨fun y hy => ?_, h⟩
      rcases List.mem_cons.1 hy with rfl | hy
      · exact hfx
      · exact leB_trans _ _ _ hfx (hx.1 y hy)
    · rename_i hlt
      rw [ltN_le] at hlt
      have hxf : leV x f = true := by simpa [leV] using hlt
      refine List.pairwise_cons.2 ⟨fun y hy => ?_, ih hx.2⟩
      rcases List.mem_cons.1 ((putV_perm f r).mem_iff.1 hy) with rfl | hy
      · exact hxf
      · exact hx.1 y hy
theorem srt_eq {a b : List FV} (h : a.Perm b) (h1 : a.Pairwise fun x y => leV x y = true) (h2 : b.Pairwise fun x y => leV x y = true) (hn : (b.map (·.name)).Nodup) : a = b := by
  refine List.Perm.eq_of_pairwise (le := fun x y => leV x y = true) (fun x y hx hy q1 q2 => ?_) h1 h2 h
  have he : x.name = y.name := bytesOf_inj (leB_anti q1 q2)
  have hx2 := h.mem_iff.1 hx
  clear h1 h2 h hx q1 q2
  induction b with
  | nil => cases hy
  | cons z r ih =>
    rw [List.map_cons, List.nodup_cons] at hn
    rcases List.mem_cons.1 hx2 with h1 | h1
    · rcases List.mem_cons.1 hy with h2 | h2
      · rw [h1, h2]
      · exact absurd (List.mem_map.2 ⟨y, h2, by rw [← he, h1]⟩) hn.1
    · rcases List.mem_cons.1 hy with h2 | h2
      · exact absurd (List.mem_map.2 ⟨x, h1, by rw [he, h2]⟩) hn.1
      · exact ih hn.2 h2 h1
theorem img_perm (d : Dk) : (imgL d).Perm (d.files.map Fil.fv) := (sortF_perm d.files).map _
theorem img_pair (d : Dk) : (imgL d).Pairwise fun a b => leV a b = true := List.pairwise_map.2 (sortF_pair d.files)
theorem fv_names (l : List Fil) : (l.map Fil.fv).map (·.name) = l.map (·.name) := by rw [List.map_map]; rfl
theorem img_nodup {d : Dk} (h : (d.files.map (·.name)).Nodup) : ((imgL d).map (·.name)).Nodup := by
  have := (img_perm d).map (fun f => f.name)
  rw [fv_names] at this
  exact this.nodup_iff.2 h
/-- A sorted list of the same files is the image. -/
theorem img_eq {l : List FV} {d : Dk} (h : l.Perm (d.files.map Fil.fv)) (h1 : l.Pairwise fun x y => leV x y = true) (hn : (d.files.map (·.name)).Nodup) : l = imgL d :=
  srt_eq (h.trans (img_perm d).symm) h1 (img_pair d) (img_nodup hn)
theorem takeV_pair {l : List FV} (nm : ByteArray) (h : l.Pairwise fun x y => leV x y = true) : (takeV l nm).Pairwise fun x y => leV x y = true := h.sublist List.filter_sublist
theorem take_img (d : Dk) (nm : ByteArray) : (takeV (imgL d) nm).Perm ((d.files.filter fun f => decide (f.name ≠ nm)).map Fil.fv) := by
  have := (img_perm d).filter (fun h => decide (h.name ≠ nm))
  rw [List.filter_map] at this
  exact this
theorem img_create {d d' : Dk} {nm : ByteArray} (h : d'.files = d.files ++ [⟨nm, [], 0⟩]) (hn : (d'.files.map (·.name)).Nodup) : putV ⟨nm, [], 0⟩ (imgL d) = imgL d' := by
  refine img_eq ?_ (putV_pair (img_pair d)) hn
  rw [h, List.map_append]
  refine (putV_perm _ _).trans (((img_perm d).cons _).trans ?_)
  exact (List.perm_append_singleton _ _).symm
theorem img_data {d d' : Dk} {l1 l2 : List Fil} {f f' : Fil} {nm : ByteArray} (hd : d.files = l1 ++ f :: l2) (hf : f.name = nm) (h1 : ∀ x ∈ l1, x.name ≠ nm) (h2 : ∀ x ∈ l2, x.name ≠ nm) (h : d'.files = l1 ++ f' :: l2) (hn : (d'.files.map (·.name)).Nodup) : putV f'.fv (takeV (imgL d) nm) = imgL d' := by
  refine img_eq ?_ (putV_pair (takeV_pair nm (img_pair d))) hn
  refine (putV_perm _ _).trans (((take_img d nm).cons _).trans ?_)
  rw [h, hd, filter_at hf h1 h2, List.map_append, List.map_append, List.map_cons]
  exact List.perm_middle.symm
theorem img_remove {d d' : Dk} {nm : ByteArray} (h : d'.files = d.files.filter fun f => decide (f.name ≠ nm)) (hn : (d'.files.map (·.name)).Nodup) : takeV (imgL d) nm = imgL d' :=
  img_eq (by rw [h]; exact take_img d nm) (takeV_pair nm (img_pair d)) hn
theorem img_rename {d d' : Dk} {a t : ByteArray} {f : Fil} (h : d'.files = (d.files.filter fun f => decide (f.name ≠ a) && decide (f.name ≠ t)) ++ [f]) (hn : (d'.files.map (·.name)).Nodup) : putV f.fv (takeV (takeV (imgL d) a) t) = imgL d' := by
  refine img_eq ?_ (putV_pair (takeV_pair t (takeV_pair a (img_pair d)))) hn
  refine (putV_perm _ _).trans ?_
  have h3 : (takeV (takeV (imgL d) a) t).Perm ((d.files.filter fun f => decide (f.name ≠ a) && decide (f.name ≠ t)).map Fil.fv) := by
    have := (take_img d a).filter (fun h => decide (h.name ≠ t))
    rw [List.filter_map, List.filter_filter] at this
    refine this.trans ?_
    have e : (d.files.filter fun x => (((fun h : FV => decide (h.name ≠ t)) ∘ Fil.fv) x) && decide (x.name ≠ a)) = d.files.filter fun f => decide (f.name ≠ a) && decide (f.name ≠ t) := by
      congr 1
      funext x
      exact Bool.and_comm _ _
    rw [e]
  refine (h3.cons _).trans ?_
  rw [h, List.map_append]
  exact (List.perm_append_singleton _ _).symm
/-- The error that bars a call, ahead of the fuse; 0: none. -/
def erD (d : Dk) (K : Int) (nm tn : ByteArray) (bl : Nat) (N M : Int) : Nat :=
  if d.down = true then 3 else if rightB nm = false ∨ (K = 3 ∧ rightB tn = false) then 50
  else if K = 0 then (if d.files.any (fun f => decide (f.name = nm)) = true then 52 else if 700 ≤ d.files.length then 53 else 0)
  else if d.files.any (fun f => decide (f.name = nm)) = false then 51
  else if K = 1 ∧ d.room - d.used < (bl : Nat) then 54
  else if K = 5 ∧ (N < 0 ∨ (lenF d nm : Int) < N) then 1
  else if K = 6 ∧ (N < 0 ∨ M < 0 ∨ (lenF d nm : Int) < N ∨ (lenF d nm : Int) - N < M) then 1
  else 0
/-- Where a file stands among the files by name. -/
theorem at_img {d : Dk} (h : (d.files.map (·.name)).Nodup) (nm : ByteArray) : (d.files.any (fun f => decide (f.name = nm)) = false ∧ atI (imgL d) nm = -1 ∧ getF d nm = none) ∨
    ∃ (k : Nat) (f : Fil), d.files.any (fun f => decide (f.name = nm)) = true ∧ atI (imgL d) nm = (k : Nat) ∧ (imgL d)[k]? = some f.fv ∧ f.name = nm ∧ getF d nm = some f ∧ f ∈ d.files := by
  cases ha : d.files.any (fun f => decide (f.name = nm))
  · rw [List.any_eq_false] at ha
    refine .inl ⟨rfl, at_none fun f hf => ?_, List.find?_eq_none.2 fun f hf => ha f hf⟩
    obtain ⟨g, hg, rfl⟩ := List.mem_map.1 ((img_perm d).mem_iff.1 hf)
    simpa [Fil.fv] using ha g hg
  · obtain ⟨l1, f, l2, hl, hn, h1, h2⟩ := split_at h ha
    have hg : getF d nm = some f := by unfold getF; rw [hl]; exact find_at hn h1 h2
    have hfm : f ∈ d.files := by rw [hl]; simp
    rcases at_range (imgL d) nm with h3 | ⟨k, f', h3, h4, h5⟩
    · exfalso
      have hm : f.fv ∈ imgL d := (img_perm d).mem_iff.2 (List.mem_map.2 ⟨f, hfm, rfl⟩)
      unfold atI at h3
      split at h3
      · rename_i i hi; omega
      · rename_i hi
        rw [List.findIdx?_eq_none_iff] at hi
        have := hi _ hm
        simp [Fil.fv, hn] at this
    · obtain ⟨g, hgm, hgf⟩ := List.mem_map.1 ((img_perm d).mem_iff.1 (List.mem_of_getElem? h4))
      have hgn : g.name = nm := by rw [← h5, ← hgf]; rfl
      have hgeq : g = f := by
        rw [hl] at hgm
        rcases List.mem_append.1 hgm with h6 | h6
        · exact absurd hgn (h1 g h6)
        · rcases List.mem_cons.1 h6 with h6 | h6
          · exact h6
          · exact absurd hgn (h2 g h6)
      subst hgeq
      exact .inr ⟨k, g, rfl, h3, by rw [h4, ← hgf], hn, hg, hfm⟩
theorem bar_eq {d : Dk} (h : DkInv d) (K : Int) (nm tn : ByteArray) (bl : Nat) (N M : Int) : barE (imgL d) d.room d.down K nm tn bl N M = (erD d K nm tn bl N M : Nat) := by
  have hu : (sumV (imgL d) : Int) = d.used := by rw [sumV_img]; exact h.ok.1.symm
  unfold barE erD
  rw [hu, imgL_len]
  rcases at_img h.nd nm with ⟨ha, hi, hg⟩ | ⟨k, f, ha, hi, hk, hn, hg, hm⟩
  · rw [hi, ha]
    have e1 : ¬ (0 : Int) ≤ -1 := by decide
    have e2 : (-1 : Int) < 0 := by decide
    simp only [e1, e2, if_false, if_true, Bool.false_eq_true]
    split <;> try rfl
    split <;> try rfl
    split <;> try rfl
    split <;> rfl
  · have hl : lenF d nm = f.data.length := by unfold lenF; rw [hg]; rfl
    have hl2 : (((imgL d)[((k : Nat) : Int).toNat]?.map (·.data.length)).getD 0) = f.data.length := by
      rw [Int.toNat_natCast, hk]; rfl
    rw [hi, ha, hl, hl2]
    have e1 : (0 : Int) ≤ (k : Nat) := by omega
    have e2 : ¬ ((k : Nat) : Int) < 0 := by omega
    simp only [e1, e2, if_false, if_true, Bool.true_eq_false]
    split <;> try rfl
    split <;> try rfl
    split <;> try rfl
    split <;> try rfl
    split <;> try rfl
    split <;> rfl
/-- The disk as the document has it. -/
structure Rk where
  fs : List FV
  room : Int
  fuse : Int
  down : Bool
  steps : Int
  reads : Int
def rkOf (d : Dk) : Rk := ⟨imgL d, d.room, d.fuse, d.down, d.steps, d.read⟩
theorem erD_open {d : Dk} {K : Int} {nm tn : ByteArray} {bl : Nat} {N M : Int} (h : erD d K nm tn bl N M = 0) : d.down = false ∧ rightB nm = true ∧ (K = 3 → rightB tn = true) ∧ (K = 0 → d.files.any (fun f => decide (f.name = nm)) = false ∧ d.files.length < 700) ∧ (K ≠ 0 → d.files.any (fun f => decide (f.name = nm)) = true) ∧
    (K = 1 → ¬ d.room - d.used < (bl : Nat)) ∧ (K = 5 → ¬ (N < 0 ∨ (lenF d nm : Int) < N)) ∧ (K = 6 → ¬ (N < 0 ∨ M < 0 ∨ (lenF d nm : Int) < N ∨ (lenF d nm : Int) - N < M)) := by
  unfold erD at h
  split at h
  · cases h
  rename_i h1
  split at h
  · cases h
  rename_i h2
  have hd : d.down = false := by simpa using h1
  have hr : rightB nm = true := by
    cases hc : rightB nm
    · exact absurd (.inl hc) h2
    · rfl
  have ht : K = 3 → rightB tn = true := fun hk => by
    cases hc : rightB tn
    · exact absurd (.inr ⟨hk, hc⟩) h2
    · rfl
  split at h
  · rename_i hk
    split at h
    · cases h
    rename_i h3
    split at h
    · cases h
    rename_i h4
    exact ⟨hd, hr, ht, fun _ => ⟨by simpa using h3, by omega⟩, fun hc => absurd hk hc, by omega, by omega, by omega⟩
  · rename_i hk
    split at h
    · cases h
    rename_i h3
    split at h
    · cases h
    rename_i h4
    split at h
    · cases h
    rename_i h5
    split at h
    · cases h
    rename_i h6
    exact ⟨hd, hr, ht, fun hc => absurd hc hk, fun _ => by simpa using h3, fun hc hn => h4 ⟨hc, hn⟩, fun hc hn => h5 ⟨hc, hn⟩, fun hc hn => h6 ⟨hc, hn⟩⟩
theorem openE_yes {d : Dk} {nm : ByteArray} (h1 : d.down = false) (h2 : rightB nm = true) (h3 : d.files.any (fun f => decide (f.name = nm)) = true) : openE d nm = 0 := by
  unfold openE
  rw [h1, h2, h3]
  rfl
theorem openE_no {d : Dk} {nm : ByteArray} (h1 : d.down = false) (h2 : rightB nm = true) (h3 : d.files.any (fun f => decide (f.name = nm)) = false) : openE d nm = 51 := by
  unfold openE
  rw [h1, h2, h3]
  rfl
/-- A call that is barred changes nothing. -/
theorem call_bar {d : Dk} {o : Op10} (hk : 0 ≤ o.k ∧ o.k ≤ 7) (h : erD d o.k o.name o.tgt o.b.length o.n o.m ≠ 0) : callD d o = (d, [], 0, erD d o.k o.name o.tgt o.b.length o.n o.m) := by
  have hc : o.k = 0 ∨ o.k = 1 ∨ o.k = 2 ∨ o.k = 3 ∨ o.k = 4 ∨ o.k = 5 ∨ o.k = 6 ∨ o.k = 7 := by omega
  obtain ⟨k, nm, tn, b, n, m, kp⟩ := o
  dsimp only at *
  unfold erD at h ⊢
  unfold callD
  cases hd : d.down
  case true =>
    rcases hc with rfl | rfl | rfl | rfl | rfl | rfl | rfl | rfl <;> simp [createD, appendD, syncD, renameD, removeD, cutD, readD, sizeD, openE, hd]
  case false =>
  cases hr : rightB nm
  case false =>
    rcases hc with rfl | rfl | rfl | rfl | rfl | rfl | rfl | rfl <;> simp [createD, appendD, syncD, renameD, removeD, cutD, readD, sizeD, openE, hd, hr]
  case true =>
  cases ha : d.files.any (fun f => decide (f.name = nm))
  case false =>
    rw [hd, hr, ha] at h
    rcases hc with rfl | rfl | rfl | rfl | rfl | rfl | rfl | rfl <;> simp [createD, appendD, syncD, renameD, removeD, cutD, readD, sizeD, openE, hd, hr, ha] at h ⊢
    · simp [h]
    · cases ht : rightB tn <;> simp
  case true =>
    rw [hd, hr, ha] at h
    have hl : (((getF d nm).map (·.data)).getD []).length = lenF d nm := by unfold lenF; cases getF d nm <;> rfl
    rcases hc with rfl | rfl | rfl | rfl | rfl | rfl | rfl | rfl <;> simp [createD, appendD, syncD, renameD, removeD, cutD, readD, sizeD, openE, hd, hr, ha, hl] at h ⊢
    · simp [h]
    · simp [h]
    · have h1 : n < 0 ∨ (lenF d nm : Int) < n := by omega
      simp [h1]
    · have h1 : n < 0 ∨ m < 0 ∨ (lenF d nm : Int) < n ∨ (lenF d nm : Int) - n < m := by omega
      simp [h1]
/-- A call that only reads. -/
theorem call_read6 {d : Dk} {o : Op10} {f : Fil} (hk : o.k = 6) (h : erD d o.k o.name o.tgt o.b.length o.n o.m = 0) (hg : getF d o.name = some f) : callD d o = ({ d with read := wrap64 (d.read + o.m) }, (f.data.drop o.n.toNat).take o.m.toNat, 0, 0) := by
  obtain ⟨h1, h2, _, _, h5, _, _, h8⟩ := erD_open h
  have h9 := h8 hk
  have ho := openE_yes h1 h2 (h5 (by omega))
  have hl : lenF d o.name = f.data.length := by unfold lenF; rw [hg]; rfl
  rw [hl] at h9
  obtain ⟨k, nm, tn, b, n, m, kp⟩ := o
  dsimp only at *
  subst hk
  unfold callD readD
  simp only [ho, hg, Option.map_some, Option.getD_some]
  rw [if_neg (by simp), if_neg h9]
  simp
theorem call_size7 {d : Dk} {o : Op10} {f : Fil} (hk : o.k = 7) (h : erD d o.k o.name o.tgt o.b.length o.n o.m = 0) (hg : getF d o.name = some f) : callD d o = (d, [], f.data.length, 0) := by
  obtain ⟨h1, h2, _, _, h5, _⟩ := erD_open h
  have ho := openE_yes h1 h2 (h5 (by omega))
  obtain ⟨k, nm, tn, b, n, m, kp⟩ := o
  dsimp only at *
  subst hk
  unfold callD sizeD
  simp only [ho, hg]
  simp
/-- What a step that goes makes of the files. -/
def chFil (d : Dk) (o : Op10) : List Fil :=
  if o.k = 0 then d.files ++ [⟨o.name, [], 0⟩] else if o.k = 1 then dataD d o.name (fun f => { f with data := f.data ++ o.b })
  else if o.k = 2 then dataD d o.name (fun f => { f with safe := f.data.length }) else if o.k = 3 then (if o.name = o.tgt then d.files else renF d o.name o.tgt)
  else if o.k = 4 then d.files.filter (fun f => decide (f.name ≠ o.name)) else dataD d o.name (fun f => { f with data := f.data.take o.n.toNat, safe := min f.safe o.n.toNat })
/-- A step: the power fails in it, or it goes. -/
theorem call_step {d : Dk} {o : Op10} (hk : 0 ≤ o.k ∧ o.k ≤ 5) (h : erD d o.k o.name o.tgt o.b.length o.n o.m = 0) (hf : 0 ≤ d.fuse) :
    (d.fuse = 1 → ∃ u, callD d o = ({ d with fuse := 0, down := true, files := if o.k = 1 then chFil d o else d.files, used := u }, [], 0, 3)) ∧
    (d.fuse ≠ 1 → ∃ u, callD d o = ({ d with fuse := if 1 < d.fuse then d.fuse - 1 else d.fuse, steps := d.steps + 1, files := chFil d o, used := u }, [], 0, 0)) := by
  obtain ⟨h1, h2, h3, h4, h5, h6, h7, _⟩ := erD_open h
  have hc : o.k = 0 ∨ o.k = 1 ∨ o.k = 2 ∨ o.k = 3 ∨ o.k = 4 ∨ o.k = 5 := by omega
  clear h
  obtain ⟨k, nm, tn, b, n, m, kp⟩ := o
  dsimp only at *
  refine ⟨fun h9 => ?_, fun h9 => ?_⟩
  · have hs : stepD d = ({ d with fuse := 0, down := true }, false) := by unfold stepD; rw [if_pos (by omega), if_pos h9]
    rcases hc with rfl | rfl | rfl | rfl | rfl | rfl
    · have ho := openE_no h1 h2 (h4 rfl).1
      have := (h4 rfl).2
      exact ⟨d.used, by simp [callD, createD, ho, hs, show ¬ 700 ≤ d.files.length by omega]⟩
    · have ho := openE_yes h1 h2 (h5 (by decide))
      exact ⟨d.used + (b.length : Nat), by simp [callD, appendD, chFil, ho, hs, h6 rfl]⟩
    · have ho := openE_yes h1 h2 (h5 (by decide))
      exact ⟨d.used, by simp [callD, syncD, ho, hs]⟩
    · have ho := openE_yes h1 h2 (h5 (by decide))
      exact ⟨d.used, by simp [callD, renameD, ho, hs, h3 rfl]⟩
    · have ho := openE_yes h1 h2 (h5 (by decide))
      exact ⟨d.used, by simp [callD, removeD, ho, hs]⟩
    · have ho := openE_yes h1 h2 (h5 (by decide))
      exact ⟨d.used, by simp [callD, cutD, ho, hs, h7 rfl]⟩
  · have hs : stepD d = ({ d with fuse := if 1 < d.fuse then d.fuse - 1 else d.fuse, steps := d.steps + 1 }, true) := by
      unfold stepD
      by_cases hp : 0 < d.fuse
      · rw [if_pos hp, if_neg h9, if_pos (by omega)]
      · rw [if_neg hp, if_neg (by omega)]
    rcases hc with rfl | rfl | rfl | rfl | rfl | rfl
    · have ho := openE_no h1 h2 (h4 rfl).1
      have := (h4 rfl).2
      exact ⟨d.used, by simp [callD, createD, chFil, ho, hs, show ¬ 700 ≤ d.files.length by omega]⟩
    · have ho := openE_yes h1 h2 (h5 (by decide))
      exact ⟨d.used + (b.length : Nat), by simp [callD, appendD, chFil, ho, hs, h6 rfl]⟩
    · have ho := openE_yes h1 h2 (h5 (by decide))
      exact ⟨d.used, by simp [callD, syncD, chFil, ho, hs]⟩
    · have ho := openE_yes h1 h2 (h5 (by decide))
      by_cases he : nm = tn
      · subst he
        exact ⟨d.used, by simp [callD, renameD, chFil, ho, hs, h3 rfl]⟩
      · exact ⟨d.used - (lenF d tn : Nat), by simp [callD, renameD, chFil, ho, hs, he, h3 rfl]⟩
    · have ho := openE_yes h1 h2 (h5 (by decide))
      exact ⟨d.used - (lenF d nm : Nat), by simp [callD, removeD, chFil, ho, hs]⟩
    · have ho := openE_yes h1 h2 (h5 (by decide))
      exact ⟨d.used - ((lenF d nm : Int) - n), by simp [callD, cutD, chFil, ho, hs, h7 rfl]⟩
/-- What the document's change makes of the files by name; f: the file (not looked at by a create). -/
def chV (L : List FV) (f : FV) (o : Op10) : List FV :=
  if o.k = 0 then putV ⟨o.name, [], 0⟩ L else if o.k = 1 then putV ⟨o.name, f.data ++ o.b, f.safe⟩ (takeV L o.name)
  else if o.k = 2 then putV ⟨o.name, f.data, (f.data.length : Nat)⟩ (takeV L o.name) else if o.k = 3 then putV ⟨o.tgt, f.data, f.safe⟩ (takeV (takeV L o.name) o.tgt)
  else if o.k = 4 then takeV L o.name else putV ⟨o.name, f.data.take o.n.toNat, min f.safe o.n⟩ (takeV L o.name)
theorem ch_img {d d' : Dk} {o : Op10} {f : Fil} (hI : DkInv d) (hI' : DkInv d') (hk : 0 ≤ o.k ∧ o.k ≤ 5) (hn : o.k = 5 → 0 ≤ o.n) (h : d'.files = chFil d o) (hg : o.k ≠ 0 → getF d o.name = some f) : chV (imgL d) f.fv o = imgL d' := by
  have hc : o.k = 0 ∨ o.k = 1 ∨ o.k = 2 ∨ o.k = 3 ∨ o.k = 4 ∨ o.k = 5 := by omega
  have hnd := hI'.nd
  obtain ⟨k, nm, tn, b, n, m, kp⟩ := o
  dsimp only at *
  by_cases h0 : k = 0
  · subst h0
    exact img_create h hnd
  · have hg := hg h0
    have ha : d.files.any (fun f => decide (f.name = nm)) = true := by
      unfold getF at hg
      rw [List.any_eq_true]
      exact ⟨f, List.mem_of_find?_eq_some hg, by simpa using List.find?_some hg⟩
    obtain ⟨l1, f1, l2, hl, hfn, h1, h2⟩ := split_at hI.nd ha
    have hf1 : f1 = f := by
      unfold getF at hg
      rw [hl, find_at hfn h1 h2] at hg
      injection hg
    subst hf1
    have hgf : getF d nm = some f1 := hg
    rcases hc with rfl | rfl | rfl | rfl | rfl | rfl
    · exact absurd rfl h0
    · have h' : d'.files = l1 ++ { f1 with data := f1.data ++ b } :: l2 := by rw [h]; show dataD d nm _ = _; unfold dataD; rw [hl]; exact map_at hfn h1 h2 _
      have := img_data hl hfn h1 h2 h' hnd
      rw [← this, ← hfn]
      rfl
    · have h' : d'.files = l1 ++ { f1 with safe := f1.data.length } :: l2 := by rw [h]; show dataD d nm _ = _; unfold dataD; rw [hl]; exact map_at hfn h1 h2 _
      have := img_data hl hfn h1 h2 h' hnd
      rw [← this, ← hfn]
      rfl
    · have h' : d'.files = if nm = tn then d.files else renF d nm tn := h
      by_cases he : nm = tn
      · rw [if_pos he] at h'
        have := img_data hl hfn h1 h2 (h'.trans hl) hnd
        subst he
        show putV _ (takeV (takeV (imgL d) nm) nm) = _
        have e : takeV (takeV (imgL d) nm) nm = takeV (imgL d) nm := by unfold takeV; rw [List.filter_filter]; congr 1; funext x; simp
        rw [e, ← this, ← hfn]
        rfl
      · rw [if_neg he] at h'
        unfold renF at h'
        rw [hgf] at h'
        exact img_rename (f := { f1 with name := tn }) h' hnd
    · exact img_remove h hnd
    · have h' : d'.files = l1 ++ { f1 with data := f1.data.take n.toNat, safe := min f1.safe n.toNat } :: l2 := by rw [h]; show dataD d nm _ = _; unfold dataD; rw [hl]; exact map_at hfn h1 h2 _
      have := img_data hl hfn h1 h2 h' hnd
      rw [← this, ← hfn]
      have e : min (f1.safe : Int) n = ((min f1.safe n.toNat : Nat) : Int) := by have := hn rfl; omega
      unfold chV Fil.fv
      dsimp only
      rw [e]
      rfl
/-- Restart, by the sentence: over the files by name. -/
def rstV (keep : List Int) (i : Nat) (f : FV) : FV :=
  { f with data := f.data.take (f.safe.toNat + (if i < keep.length then min (keep.getD i 0).toNat (f.data.length - f.safe.toNat) else 0)), safe := ((f.safe.toNat + (if i < keep.length then min (keep.getD i 0).toNat (f.data.length - f.safe.toNat) else 0) : Nat) : Int) }
theorem img_restart {d : Dk} (keep : List Int) (hI : DkInv (restartD d keep)) : (imgL d).mapIdx (rstV keep) = imgL (restartD d keep) := by
  have e : (imgL d).mapIdx (rstV keep) = (restL keep (sortF d.files)).map Fil.fv := by
    unfold imgL restL
    rw [List.mapIdx_eq_zipIdx_map, List.mapIdx_eq_zipIdx_map, List.zipIdx_map, List.map_map, List.map_map]
    refine List.map_congr_left fun x hx => ?_
    rfl
  refine img_eq (by rw [e]; exact List.Perm.refl _) ?_ hI.nd
  have hp := img_pair d
  rw [List.mapIdx_eq_zipIdx_map]
  refine List.pairwise_map.2 ?_
  have hz : ((imgL d).zipIdx.map (·.1)) = imgL d := List.zipIdx_map_fst 0 _
  rw [← hz] at hp
  exact (List.pairwise_map.1 hp).imp fun {a b} hab => hab
end Go.Proofs.YtjajbbgebblalaaGreatDoor

namespace Go.Proofs.YtjajbbgebblalaaGreatDoor
open Go.RowKit
set_option linter.unusedVariables false
set_option linter.unusedSimpArgs false
/-- How many bytes a file keeps. -/
def kpV (keep : List Int) (i : Nat) (f : FV) : Nat := f.safe.toNat + (if i < keep.length then min (keep.getD i 0).toNat (f.data.length - f.safe.toNat) else 0)
theorem rstV_eq (keep : List Int) (i : Nat) (f : FV) : rstV keep i f = ⟨f.name, f.data.take (kpV keep i f), (kpV keep i f : Nat)⟩ := rfl
def dkv (A : Option Addr) (n c : Nat) (r1 r2 r4 r5 : Int) (r3 : Bool) : Array Value := #[.slice A n c, .int .i64 r1, .int .i64 r2, .bool r3, .int .i64 r4, .int .i64 r5]
/-- Right numbers of a file. -/
def FvOk (f : FV) : Prop := f.data.length ≤ 67108864 ∧ 0 ≤ f.safe ∧ f.safe ≤ (f.data.length : Nat)
theorem ownfl_at {w : World} {B n c k : Nat} {A : Option Addr} {hs : List HV} (h : OwnFl w B A n c hs) (hk : k < n) :
    ∃ b o f Af cf, hs[k]? = some (f, Af, cf) ∧ A = some ⟨b, o, none⟩ ∧ w.rangeAt b (o + k * 3) (flcells f Af cf).toList ∧ w.ownsRow B 5 1 (.slice Af f.data.length cf) f.data.length (u8s f.data) := by
  obtain ⟨b, o, f, Af, cf, h1, h2, h3⟩ := hv_at (RdN.of_own h.1) hk
  exact ⟨b, o, f, Af, cf, h1, h2, h3, h.2 _ (List.mem_of_getElem? h1)⟩
theorem own_le' {w : World} {base s n c : Nat} {e : TypeId} {A : Option Addr} {xs : List Value} (h : w.ownsRow base e s (.slice A n c) n xs) : n ≤ c := by
  rcases h.2 with ⟨h1, h2⟩ | ⟨g, cap, cur, h1, _, _, h2, _⟩
  · omega
  · injection h1 with _ _ h3
    omega
theorem grown_cell {wa w' : World} {g i : Nat} {v : Value} {row : Option Nat} (h : wa.cell? ⟨g, i, none⟩ = some v) (hg : wa.grownBy w' row) (hne : some g ≠ row) : w'.cell? ⟨g, i, none⟩ = some v := by
  have hb : w'.heap[g]? = wa.heap[g]? := hg.block g (World.block_lt_of_cell? wa _ h) hne
  rw [← h]
  unfold World.cell?
  simp only [hb]
theorem at_intsR {w : World} {A : Option Addr} {n k : Nat} {l : List Int} (h : Rd w A n (ints l)) (hk : k < n) :
    ∃ b o, A = some ⟨b, o, none⟩ ∧ w.cell? ⟨b, o + k, none⟩ = some (.int .i64 (l.getD k 0)) := by
  obtain ⟨b, o, e, hc⟩ := h.2 (by omega)
  have hl : k < l.length := by have := h.1; simp [ints] at this; omega
  exact ⟨b, o, e, hc k _ (by simp [ints, List.getD, List.getElem?_eq_getElem hl])⟩
theorem ownfl_set {w : World} {B n c g i : Nat} {u : Value} {A : Option Addr} {hs : List HV} (hg : g < B) (h : OwnFl w B A n c hs) : OwnFl (w.setCell ⟨g, i, none⟩ u) B A n c hs :=
  ⟨own_setCell hg h.1, fun x hx => own_setCell hg (h.2 x hx)⟩
theorem ownfl_row {w : World} {B n c g : Nat} {ds : Array Value} {A : Option Addr} {hs : List HV} (hg : g < B) (h : OwnFl w B A n c hs) : OwnFl (w.setRow g ds) B A n c hs :=
  ⟨own_setRow hg h.1, fun x hx => own_setRow hg (h.2 x hx)⟩
theorem OwnFl.low {w : World} {B B' n c : Nat} {A : Option Addr} {hs : List HV} (h : OwnFl w B A n c hs) (hb : B' ≤ B) : OwnFl w B' A n c hs :=
  ⟨own_base h.1 hb, fun x hx => own_base (h.2 x hx) hb⟩
theorem dk_size (A : Option Addr) (n c : Nat) (r1 r2 r4 r5 : Int) (r3 : Bool) : (#[.slice A n c, .int .i64 r1, .int .i64 r2, .bool r3, .int .i64 r4, .int .i64 r5] : Array Value).size = 6 := rfl
theorem dk_one (A : Option Addr) (n c : Nat) (r1 r2 r4 r5 : Int) (r3 : Bool) : ∀ v ∈ (#[.slice A n c, .int .i64 r1, .int .i64 r2, .bool r3, .int .i64 r4, .int .i64 r5] : Array Value).toList, v.oneCell' = true := by
  intro v hv
  simp at hv
  rcases hv with rfl | rfl | rfl | rfl | rfl | rfl <;> rfl
def RstR (W1 : World) (keep : List Int) (fs : List FV) (c5 c13 : Value) (wr : World) : Prop :=
  ∃ (k : Nat) (A : Option Addr) (c : Nat) (hs : List HV), c13 = .int .i64 k ∧ k ≤ fs.length ∧ c5 = .slice A k c ∧ hs.map (·.1) = (fs.take k).mapIdx (rstV keep) ∧ Ext W1 wr ∧ OwnFl wr W1.heap.size A k c hs
theorem mapIdx_snoc {fs : List FV} {k : Nat} {f : FV} (keep : List Int) (h : fs[k]? = some f) : (fs.take (k + 1)).mapIdx (rstV keep) = (fs.take k).mapIdx (rstV keep) ++ [rstV keep k f] := by
  have hk : k < fs.length := (List.getElem?_eq_some_iff.1 h).1
  rw [List.take_add_one, h, Option.toList_some, List.mapIdx_append]
  congr 1
  simp [Nat.min_eq_left (Nat.le_of_lt hk)]
set_option maxRecDepth 100000 in
set_option maxHeartbeats 8000000 in
theorem rrestart_any (A : Option Addr) (n c B0 : Nat) (hs0 : List HV) (r1 r2 r4 r5 : Int) (r3 : Bool) (AK : Option Addr) (nk ck : Nat) (keep : List Int) (w : World) (hr : OwnFl w B0 A n c hs0) (hn : n ≤ 2000000) (hb : ∀ h ∈ hs0, FvOk h.1)
    (hk : Rd w AK nk (ints keep)) (hki : ∀ x ∈ keep, IsI64 x) (hnk : nk ≤ 140737488355328) :
    Calls Tryz.prog 57 #[.agg #[.slice A n c, .int .i64 r1, .int .i64 r2, .bool r3, .int .i64 r4, .int .i64 r5], .slice AK nk ck] w fun e w' => ∃ A' c' hs, e = .returned (.agg #[.slice A' n c', .int .i64 r1, .int .i64 0, .bool false, .int .i64 r4, .int .i64 r5]) ∧ hs.map (·.1) = (hs0.map (·.1)).mapIdx (rstV keep) ∧ Ext w w' ∧ OwnFl w' w.heap.size A' n c' hs := by
  have hl0 := hr.len
  have hkl : keep.length = nk := by have := hk.1; simpa [ints] using this
  have HR := Lib.hid hr
  have HK := Lib.hid hk
  have HB := Lib.hid hb
  obtain ⟨fs, hfs⟩ : ∃ fs, fs = hs0.map (·.1) := ⟨_, rfl⟩
  have Hfs := Lib.hid hfs
  have hlen : fs.length = n := by rw [hfs, List.length_map, hl0]
  have Hlen := Lib.hid hlen
  rw [← hfs]
  clear hk hr hb hl0 hlen hfs
  go_enter Tryz.func57, Tryz.ntmps57
  go_wp2_with fail
  obtain ⟨W1, hW1⟩ : ∃ W1, W1 = (w.alloc (.cells #[.slice A n c, .int .i64 r1, .int .i64 r2, .bool r3, .int .i64 r4, .int .i64 r5] 28)).alloc (.cells #[.slice none 0 0, .int .i64 0, .int .i64 0, .bool false, .int .i64 0, .int .i64 0] 28) := ⟨_, rfl⟩
  have B1 : Hid (Blk W1 w.heap.size 28 #[.slice A n c, .int .i64 r1, .int .i64 r2, .bool r3, .int .i64 r4, .int .i64 r5]) := Lib.hid (by rw [hW1]; exact BlkA (BlkN rfl))
  have B2 : Hid (Blk W1 (w.heap.size + 1) 28 #[.slice none 0 0, .int .i64 0, .int .i64 0, .bool false, .int .i64 0, .int .i64 0]) := Lib.hid (by rw [hW1]; exact BlkN (by simp))
  have HX1 : Hid (Ext w W1) := Lib.hid (by rw [hW1]; exact ExtA (ExtA (Ext.rfl' w)))
  have hz1 : w.heap.size + 1 + 1 = W1.heap.size := by rw [hW1]; simp
  have HO1 : Hid (OwnFl (W1.alloc (.cells #[] 58)) W1.heap.size (some ⟨w.heap.size + 1 + 1, 0, none⟩) 0 0 []) := Lib.hid (by rw [hz1]; exact ⟨own_emptyF _ _ _ rfl (Nat.le_refl _), fun h hh => by cases hh⟩)
  rw [← hW1]
  have HB1lt : Hid (w.heap.size + 1 < W1.heap.size) := Lib.hid (by omega)
  clear hW1 hz1
  go_loopw [5, 13] (fun c5 c13 wr => RstR W1 keep fs c5 c13 wr) (fun _ c13 _ => n - (intOf c13).toNat)
  case atStart => exact ⟨0, _, _, [], rfl, by omega, rfl, rfl, ExtA (Ext.rfl' _), HO1.out⟩
  case round =>
    obtain ⟨k, A1, c1, gs, rfl, hk, rfl, hmap, hx, hown⟩ := hrel
    have Hk := Lib.hid hk
    have Hmap := Lib.hid hmap
    have Hown := Lib.hid hown
    have Hgl := Lib.hid hown.len
    have HX := Lib.hid (HX1.out.tr hx)
    have k0 : wr.cell? ⟨w.heap.size, 0, none⟩ = some (.slice A n c) := hx.cell (B1.out.cell 0)
    clear hk hmap hown
    by_cases hlt : k < n
    · obtain ⟨b, o, f, Af, cf, hfk, rfl, hc0, hof⟩ := ownfl_at HR.out hlt
      have hok := HB.out _ (List.mem_of_getElem? hfk)
      have hfk2 : fs[k]? = some f := by rw [Hfs.out, List.getElem?_map, hfk]; rfl
      have Hsn := Lib.hid (mapIdx_snoc keep hfk2)
      rw [rstV_eq] at Hsn
      obtain ⟨m, hm⟩ : ∃ m, m = kpV keep k f := ⟨_, rfl⟩
      rw [← hm] at Hsn
      have hcf := own_le' hof
      obtain ⟨nm, fb, sf⟩ := f
      unfold FvOk at hok
      unfold kpV at hm
      dsimp only at hok hm hcf hof Hsn
      have hmb : m ≤ fb.length := by rw [hm]; split <;> omega
      have hc := range_ext hc0 HX.out
      have e0 := hc 0 _ rfl
      have e1 := hc 1 _ rfl
      have e2 := hc 2 _ rfl
      simp only [Nat.add_zero] at e0
      dsimp only at e0 e1 e2
      have Hof := Lib.hid hof
      obtain ⟨n0, hn0⟩ : ∃ n0, n0 = fb.length := ⟨_, rfl⟩
      rw [← hn0] at e1 hok hm hcf hmb
      have Hn0 := Lib.hid hn0
      have Hm := Lib.hid hm
      clear hfk hfk2 hc hc0 hof hn0 hm
      have HF7 : Hid (∀ w2, Ext (wr.alloc (.cells #[.string nm, .slice Af n0 cf, .int .i64 sf] 58)) w2 → w2.cell? ⟨wr.heap.size, 0, none⟩ = some (.string nm) ∧ w2.cell? ⟨wr.heap.size, 1, none⟩ = some (.slice Af n0 cf) ∧ w2.cell? ⟨wr.heap.size, 2, none⟩ = some (.int .i64 sf)) := Lib.hid fun w2 h2 => (by
        have h3 : Blk w2 wr.heap.size 58 #[.string nm, .slice Af n0 cf, .int .i64 sf] := BlkE (BlkN rfl) h2
        exact ⟨h3.cell 0, h3.cell 1, h3.cell 2⟩)
      have KC := Lib.hid fun (A2 : Option Addr) (w1 : World) (h : Rd w1 A2 m (u8s (fb.take m))) => copy_any A2 m cf (fb.take m) w1 h (by omega)
      unfold NewB at KC
      have hmt : (fb.take m).length = m := by rw [List.length_take]; have := Hn0.out; omega
      rw [hmt] at KC
      have Hmt := Lib.hid hmt
      obtain ⟨A7, hsl, hrd⟩ := slice_hi Af n0 cf m hmb hcf
      have Hrd7 := Lib.hid (hrd wr fb (by rw [Hn0.out]; exact rd_own (own_ext HX.out Hof.out)))
      have Hrd := Lib.hid fun (W : World) (A2 : Option Addr) (c2 : Nat) => (show RdN (W.alloc (.cells #[.string nm, .slice A2 m c2, .int .i64 (m : Nat)] 58)) 3 (some ⟨W.heap.size, 0, none⟩) 1 (flCells [(⟨nm, fb.take m, (m : Nat)⟩, A2, c2)]) from by have := rdV_new W _ ⟨nm, fb.take m, (m : Nat)⟩ A2 c2 rfl; rw [hmt] at this; exact this)
      clear hmt hrd
      by_cases hkn : k < nk
      case neg =>
        have hm0 : (m : Int) = sf := by have := Hm.out; rw [if_neg (by omega)] at this; omega
        have d1 : decide (k < nk) = false := by simpa using hkn
        go_upto_region 11 with (first
          | (change wpList _ _ _ (⟨none, .store _ (.tmp 7) _, _, _, _, _⟩ :: _) _ _; refine wpL_store_new rfl 58 (.tmp 7) (.tmp 20) rfl wr.heap.size 58 #[.string ⟨#[]⟩, .slice none 0 0, .int .i64 0] #[.string nm, .slice Af n0 cf, .int .i64 sf] rfl rfl rfl rfl (flcells_one ⟨nm, [], sf⟩ Af cf) 3 fil_wide rfl ?_))
        subst hm0
        obtain ⟨wc, hwc⟩ : ∃ wc, wc = wr.alloc (.cells #[.string nm, .slice Af n0 cf, .int .i64 (m : Nat)] 58) := ⟨_, rfl⟩
        have hxc : Ext (wr.alloc (.cells #[.string nm, .slice Af n0 cf, .int .i64 (m : Nat)] 58)) wc := by rw [hwc]; exact Ext.rfl' _
        rw [← hwc]
        clear hwc
        have hxr : Ext wr wc := (ExtA (Ext.rfl' wr)).tr hxc
        have hx1c : Ext W1 wc := hx.tr hxr
        have HS := Lib.hid fun (w' : World) (h : Ext wc w') => (show w'.cell? ⟨wr.heap.size, 0, none⟩ = some (.string nm) ∧ w'.cell? ⟨wr.heap.size, 1, none⟩ = some (.slice Af n0 cf) from ⟨(HF7.out w' (hxc.tr h)).1, (HF7.out w' (hxc.tr h)).2.1⟩)
        have HS2 := Lib.hid fun (wa w' : World) (h : wa.cell? ⟨wr.heap.size, 0, none⟩ = some (.string nm) ∧ wa.cell? ⟨wr.heap.size, 1, none⟩ = some (.slice Af n0 cf)) (hg : wa.grownBy w' (Value.slice A1 k c1).ownBlock) => (show w'.cell? ⟨wr.heap.size, 0, none⟩ = some (.string nm) ∧ w'.cell? ⟨wr.heap.size, 1, none⟩ = some (.slice Af n0 cf) from
          have hne : some wr.heap.size ≠ (Value.slice A1 k c1).ownBlock := fun e => by have := (Hown.out.1.lt _ e.symm).2; omega
          ⟨grown_cell h.1 hg hne, grown_cell h.2 hg hne⟩)
        clear hxc
        go_region_held3 (fun w' => w'.cell? ⟨wr.heap.size, 0, none⟩ = some (.string nm) ∧ w'.cell? ⟨wr.heap.size, 1, none⟩ = some (.slice Af n0 cf)) (first | exact HS2.out _ _ (by assumption) hg3 | exact HS.out _ (by repeat (first | with_reducible exact Below.refl _ _ | with_reducible assumption | with_reducible refine ExtD ?_ | with_reducible refine ExtDN ?_ | with_reducible refine ExtA ?_ | (with_reducible refine ExtR ?_ ?_; (first | omega | (dsimp only; omega) | (simp; done) | (simp; omega))) | (with_reducible refine ExtS ?_ ?_; (first | omega | (dsimp only; omega) | (simp; done) | (simp; omega))) | with_reducible refine Ext.tr ?_ (by with_reducible assumption))))
          (first
            | (go_at_call 31; go_loud ((with_reducible refine (KC.out _ _ (Hrd7.out.ext (by repeat (first | with_reducible exact Below.refl _ _ | with_reducible assumption | with_reducible refine ExtD ?_ | with_reducible refine ExtDN ?_ | with_reducible refine ExtA ?_ | (with_reducible refine ExtR ?_ ?_; (first | omega | (dsimp only; omega) | (simp; done) | (simp; omega))) | (with_reducible refine ExtS ?_ ?_; (first | omega | (dsimp only; omega) | (simp; done) | (simp; omega))) | with_reducible refine Ext.tr ?_ (by with_reducible assumption))))).mono ?_); rintro e w2 ⟨A2, c2, rfl, hx2, hown2⟩))
            | (change (if Region.wanted ⟨some 66, _, _, _, _, _⟩ _ = true then _ else _); refine step_appendF rfl (some 66) rfl (.tmp 55) (.tmp 65) rfl W1 (by rfl) (own_ext (w := wr) (by repeat (first | with_reducible exact Below.refl _ _ | with_reducible assumption | with_reducible refine ExtD ?_ | with_reducible refine ExtDN ?_ | with_reducible refine ExtA ?_ | (with_reducible refine ExtR ?_ ?_; (first | omega | (dsimp only; omega) | (simp; done) | (simp; omega))) | (with_reducible refine ExtS ?_ ?_; (first | omega | (dsimp only; omega) | (simp; done) | (simp; omega))) | with_reducible refine Ext.tr ?_ (by with_reducible assumption))) Hown.out.1) (by repeat (first | with_reducible exact Below.refl _ _ | with_reducible assumption | with_reducible refine ExtD ?_ | with_reducible refine ExtDN ?_ | with_reducible refine ExtA ?_ | (with_reducible refine ExtR ?_ ?_; (first | omega | (dsimp only; omega) | (simp; done) | (simp; omega))) | (with_reducible refine ExtS ?_ ?_; (first | omega | (dsimp only; omega) | (simp; done) | (simp; omega))) | with_reducible refine Ext.tr ?_ (by with_reducible assumption))) (by rfl) (Hrd.out _ _ _) (by have := Hgl.out; simp; omega) ?_; intro A3 n3 c3 w3 hx3 hn3 hown3 hk3 hg3))
        go_wp2_with fail
        go_roundw
        case rel =>
          have hn : n3 = k + 1 := by rw [hn3.out, Hgl.out]; rfl
          subst hn
          refine ⟨k + 1, A3, c3, gs ++ [(⟨nm, fb.take m, (m : Nat)⟩, A2, c2)], by go_num, by have := Hlen.out; omega, rfl, ?_, hx3, hown3, ?_⟩
          · rw [List.map_append, Hmap.out, Hsn.out]
            rfl
          · intro h hh
            rcases List.mem_append.1 hh with hh | hh
            · exact hk3 _ _ _ _ (own_ext (w := wr) (by repeat (first | with_reducible exact Below.refl _ _ | with_reducible assumption | with_reducible refine ExtD ?_ | with_reducible refine ExtDN ?_ | with_reducible refine ExtA ?_ | (with_reducible refine ExtR ?_ ?_; (first | omega | (dsimp only; omega) | (simp; done) | (simp; omega))) | (with_reducible refine ExtS ?_ ?_; (first | omega | (dsimp only; omega) | (simp; done) | (simp; omega))) | with_reducible refine Ext.tr ?_ (by with_reducible assumption))) (Hown.out.2 h hh))
            · simp only [List.mem_singleton] at hh
              subst hh
              dsimp only
              rw [Hmt.out]
              exact hk3 _ _ _ _ (own_ext (w := w2) (by repeat (first | with_reducible exact Below.refl _ _ | with_reducible assumption | with_reducible refine ExtD ?_ | with_reducible refine ExtDN ?_ | with_reducible refine ExtA ?_ | (with_reducible refine ExtR ?_ ?_; (first | omega | (dsimp only; omega) | (simp; done) | (simp; omega))) | (with_reducible refine ExtS ?_ ?_; (first | omega | (dsimp only; omega) | (simp; done) | (simp; omega))) | with_reducible refine Ext.tr ?_ (by with_reducible assumption))) (own_base hown2 (by have := hx1c.size; simp; omega)))
        case measure => simp [intOf]; omega
      case pos =>
        obtain ⟨kb, ko, rfl, kc⟩ := at_intsR HK.out hkn
        have ek := HX.out.cell kc
        obtain ⟨x, hx0⟩ : ∃ x, x = keep.getD k 0 := ⟨_, rfl⟩
        have hxi : IsI64 x := hki x (by rw [hx0, List.getD_eq_getElem?_getD, List.getElem?_eq_getElem (show k < keep.length by omega)]; exact List.getElem_mem _)
        have Hmx : Hid (m = sf.toNat + min x.toNat (n0 - sf.toNat)) := Lib.hid (by have := Hm.out; rw [if_pos (by omega)] at this; rw [hx0]; exact this)
        rw [← hx0] at ek
        unfold IsI64 at hxi
        clear hx0 kc
        have hwr1 : IntKind.i64.wrap ((n0 : Int) - sf) = (n0 : Int) - sf := by rw [IntKind.wrap_i64]; omega
        go_upto_region 7 with (first
          | (change wpList _ _ _ (⟨none, .store _ (.tmp 7) _, _, _, _, _⟩ :: _) _ _; refine wpL_store_new rfl 58 (.tmp 7) (.tmp 20) rfl wr.heap.size 58 #[.string ⟨#[]⟩, .slice none 0 0, .int .i64 0] #[.string nm, .slice Af n0 cf, .int .i64 sf] rfl rfl rfl rfl (flcells_one ⟨nm, [], sf⟩ Af cf) 3 fil_wide rfl ?_))
        have ek7 := (ExtA (o := .cells #[.string nm, .slice Af n0 cf, .int .i64 sf] 58) (Ext.rfl' wr)).cell ek
        obtain ⟨h70, h71, h72⟩ := HF7.out _ (Ext.rfl' _)
        obtain ⟨wa, hwa⟩ : ∃ wa, wa = wr.alloc (.cells #[.string nm, .slice Af n0 cf, .int .i64 sf] 58) := ⟨_, rfl⟩
        rw [← hwa] at ek7 h70 h71 h72 ⊢
        have Hwa := Lib.hid hwa
        clear hwa
        go_upto_if 33 with fail
        go_cut [8] (fun s8 w' => s8 = .int .i64 (m : Nat) ∧ Ext wa w')
        case first =>
          have fin : ∀ (v : Int) (w' : World), v = (m : Nat) → Ext wa w' → (Value.int .i64 v = .int .i64 (m : Nat) ∧ Ext wa w') := fun v w' hv hx => ⟨by rw [hv], hx⟩
          by_cases hx0 : 0 < x
          · have d2 : decide (0 < x) = true := by simpa using hx0
            by_cases hx1 : (n0 : Int) - sf < x
            · have d3 : decide ((n0 : Int) - sf < x) = true := by simpa using hx1
              have Hmv : Hid ((n0 : Int) = (m : Nat)) := Lib.hid (by have := Hmx.out; omega)
              go_wp2_with fail
              go_quiet (fail)
              go_wp2_with fail
              go_meet
              exact fin _ _ Hmv.out (by repeat (first | with_reducible exact Below.refl _ _ | with_reducible assumption | with_reducible refine ExtD ?_ | with_reducible refine ExtDN ?_ | with_reducible refine ExtA ?_ | (with_reducible refine ExtR ?_ ?_; (first | omega | (dsimp only; omega) | (simp; done) | (simp; omega))) | (with_reducible refine ExtS ?_ ?_; (first | omega | (dsimp only; omega) | (simp; done) | (simp; omega))) | with_reducible refine Ext.tr ?_ (by with_reducible assumption)))
            · have d3 : decide ((n0 : Int) - sf < x) = false := by simpa using hx1
              have Hmv : Hid (sf + x = (m : Nat)) := Lib.hid (by have := Hmx.out; omega)
              have hwr2 : IntKind.i64.wrap (sf + x) = sf + x := by rw [IntKind.wrap_i64]; omega
              go_wp2_with fail
              go_quiet (fail)
              go_wp2_with fail
              go_quiet (fail)
              go_wp2_with fail
              go_meet
              exact fin _ _ Hmv.out (by repeat (first | with_reducible exact Below.refl _ _ | with_reducible assumption | with_reducible refine ExtD ?_ | with_reducible refine ExtDN ?_ | with_reducible refine ExtA ?_ | (with_reducible refine ExtR ?_ ?_; (first | omega | (dsimp only; omega) | (simp; done) | (simp; omega))) | (with_reducible refine ExtS ?_ ?_; (first | omega | (dsimp only; omega) | (simp; done) | (simp; omega))) | with_reducible refine Ext.tr ?_ (by with_reducible assumption)))
          · have d2 : decide (0 < x) = false := by simpa using hx0
            have Hmv : Hid (sf = (m : Nat)) := Lib.hid (by have := Hmx.out; omega)
            go_wp2_with fail
            go_meet
            exact fin _ _ Hmv.out (by repeat (first | with_reducible exact Below.refl _ _ | with_reducible assumption | with_reducible refine ExtD ?_ | with_reducible refine ExtDN ?_ | with_reducible refine ExtA ?_ | (with_reducible refine ExtR ?_ ?_; (first | omega | (dsimp only; omega) | (simp; done) | (simp; omega))) | (with_reducible refine ExtS ?_ ?_; (first | omega | (dsimp only; omega) | (simp; done) | (simp; omega))) | with_reducible refine Ext.tr ?_ (by with_reducible assumption)))
        case rest =>
          obtain ⟨rfl, hxc⟩ := hcut
          rw [Hwa.out] at hxc
          go_upto_region 11 with fail
          have hxr : Ext wr wc := (ExtA (Ext.rfl' wr)).tr hxc
          have hx1c : Ext W1 wc := hx.tr hxr
          have HS := Lib.hid fun (w' : World) (h : Ext wc w') => (show w'.cell? ⟨wr.heap.size, 0, none⟩ = some (.string nm) ∧ w'.cell? ⟨wr.heap.size, 1, none⟩ = some (.slice Af n0 cf) from ⟨(HF7.out w' (hxc.tr h)).1, (HF7.out w' (hxc.tr h)).2.1⟩)
          have HS2 := Lib.hid fun (wa w' : World) (h : wa.cell? ⟨wr.heap.size, 0, none⟩ = some (.string nm) ∧ wa.cell? ⟨wr.heap.size, 1, none⟩ = some (.slice Af n0 cf)) (hg : wa.grownBy w' (Value.slice A1 k c1).ownBlock) => (show w'.cell? ⟨wr.heap.size, 0, none⟩ = some (.string nm) ∧ w'.cell? ⟨wr.heap.size, 1, none⟩ = some (.slice Af n0 cf) from
            have hne : some wr.heap.size ≠ (Value.slice A1 k c1).ownBlock := fun e => by have := (Hown.out.1.lt _ e.symm).2; omega
            ⟨grown_cell h.1 hg hne, grown_cell h.2 hg hne⟩)
          clear hxc
          go_region_held3 (fun w' => w'.cell? ⟨wr.heap.size, 0, none⟩ = some (.string nm) ∧ w'.cell? ⟨wr.heap.size, 1, none⟩ = some (.slice Af n0 cf)) (first | exact HS2.out _ _ (by assumption) hg3 | exact HS.out _ (by repeat (first | with_reducible exact Below.refl _ _ | with_reducible assumption | with_reducible refine ExtD ?_ | with_reducible refine ExtDN ?_ | with_reducible refine ExtA ?_ | (with_reducible refine ExtR ?_ ?_; (first | omega | (dsimp only; omega) | (simp; done) | (simp; omega))) | (with_reducible refine ExtS ?_ ?_; (first | omega | (dsimp only; omega) | (simp; done) | (simp; omega))) | with_reducible refine Ext.tr ?_ (by with_reducible assumption))))
            (first
              | (go_at_call 31; go_loud ((with_reducible refine (KC.out _ _ (Hrd7.out.ext (by repeat (first | with_reducible exact Below.refl _ _ | with_reducible assumption | with_reducible refine ExtD ?_ | with_reducible refine ExtDN ?_ | with_reducible refine ExtA ?_ | (with_reducible refine ExtR ?_ ?_; (first | omega | (dsimp only; omega) | (simp; done) | (simp; omega))) | (with_reducible refine ExtS ?_ ?_; (first | omega | (dsimp only; omega) | (simp; done) | (simp; omega))) | with_reducible refine Ext.tr ?_ (by with_reducible assumption))))).mono ?_); rintro e w2 ⟨A2, c2, rfl, hx2, hown2⟩))
              | (change (if Region.wanted ⟨some 66, _, _, _, _, _⟩ _ = true then _ else _); refine step_appendF rfl (some 66) rfl (.tmp 55) (.tmp 65) rfl W1 (by rfl) (own_ext (w := wr) (by repeat (first | with_reducible exact Below.refl _ _ | with_reducible assumption | with_reducible refine ExtD ?_ | with_reducible refine ExtDN ?_ | with_reducible refine ExtA ?_ | (with_reducible refine ExtR ?_ ?_; (first | omega | (dsimp only; omega) | (simp; done) | (simp; omega))) | (with_reducible refine ExtS ?_ ?_; (first | omega | (dsimp only; omega) | (simp; done) | (simp; omega))) | with_reducible refine Ext.tr ?_ (by with_reducible assumption))) Hown.out.1) (by repeat (first | with_reducible exact Below.refl _ _ | with_reducible assumption | with_reducible refine ExtD ?_ | with_reducible refine ExtDN ?_ | with_reducible refine ExtA ?_ | (with_reducible refine ExtR ?_ ?_; (first | omega | (dsimp only; omega) | (simp; done) | (simp; omega))) | (with_reducible refine ExtS ?_ ?_; (first | omega | (dsimp only; omega) | (simp; done) | (simp; omega))) | with_reducible refine Ext.tr ?_ (by with_reducible assumption))) (by rfl) (Hrd.out _ _ _) (by have := Hgl.out; simp; omega) ?_; intro A3 n3 c3 w3 hx3 hn3 hown3 hk3 hg3))
          go_wp2_with fail
          go_roundw
          case rel =>
            have hn : n3 = k + 1 := by rw [hn3.out, Hgl.out]; rfl
            subst hn
            refine ⟨k + 1, A3, c3, gs ++ [(⟨nm, fb.take m, (m : Nat)⟩, A2, c2)], by go_num, by have := Hlen.out; omega, rfl, ?_, hx3, hown3, ?_⟩
            · rw [List.map_append, Hmap.out, Hsn.out]
              rfl
            · intro h hh
              rcases List.mem_append.1 hh with hh | hh
              · exact hk3 _ _ _ _ (own_ext (w := wr) (by repeat (first | with_reducible exact Below.refl _ _ | with_reducible assumption | with_reducible refine ExtD ?_ | with_reducible refine ExtDN ?_ | with_reducible refine ExtA ?_ | (with_reducible refine ExtR ?_ ?_; (first | omega | (dsimp only; omega) | (simp; done) | (simp; omega))) | (with_reducible refine ExtS ?_ ?_; (first | omega | (dsimp only; omega) | (simp; done) | (simp; omega))) | with_reducible refine Ext.tr ?_ (by with_reducible assumption))) (Hown.out.2 h hh))
              · simp only [List.mem_singleton] at hh
                subst hh
                dsimp only
                rw [Hmt.out]
                exact hk3 _ _ _ _ (own_ext (w := w2) (by repeat (first | with_reducible exact Below.refl _ _ | with_reducible assumption | with_reducible refine ExtD ?_ | with_reducible refine ExtDN ?_ | with_reducible refine ExtA ?_ | (with_reducible refine ExtR ?_ ?_; (first | omega | (dsimp only; omega) | (simp; done) | (simp; omega))) | (with_reducible refine ExtS ?_ ?_; (first | omega | (dsimp only; omega) | (simp; done) | (simp; omega))) | with_reducible refine Ext.tr ?_ (by with_reducible assumption))) (own_base hown2 (by have := hx1c.size; simp; omega)))
          case measure => simp [intOf]; omega
    · have hkn : k = n := by have := Hk.out; have := Hlen.out; omega
      subst hkn
      have hown := Hown.out
      have htk : fs.take k = fs := List.take_of_length_le (by rw [Hlen.out]; exact Nat.le_refl _)
      have hm2 := Hmap.out
      rw [htk] at hm2
      have HM := Lib.hid hm2
      have hB1 := BlkE B1.out hx
      have hB2 := BlkE B2.out hx
      have hX := HX.out
      have c0 := hB1.cell 0
      have z0 := hB1.frozen 0
      clear htk hm2 k0
      go_upto_region 14 with fail
      have b1 := Blk_eq (BlkS (i := 0) (u := .slice A1 k c1) hB1) (cs' := #[.slice A1 k c1, .int .i64 r1, .int .i64 r2, .bool r3, .int .i64 r4, .int .i64 r5]) rfl
      have b1' := BlkF (p := ⟨w.heap.size, 0, none⟩) (u := .slice A1 k c1) (show w.heap.size + 1 ≠ w.heap.size by omega) hB2
      have hX3 : Ext w (wr.setCell ⟨w.heap.size, 0, none⟩ (.slice A1 k c1)) := ExtS (Nat.le_refl _) hX
      have ho3 : OwnFl (wr.setCell ⟨w.heap.size, 0, none⟩ (.slice A1 k c1)) W1.heap.size A1 k c1 gs := ownfl_set (Nat.lt_of_succ_lt HB1lt.out) hown
      generalize wr.setCell ⟨w.heap.size, 0, none⟩ (.slice A1 k c1) = W3 at *
      have c3 := b1.cell 3
      have z3 := b1.frozen 3
      clear c0 z0 hX hown hB1 hB2
      go_upto_region 15 with fail
      have b2 := Blk_eq (BlkS (i := 3) (u := .bool false) b1) (cs' := #[.slice A1 k c1, .int .i64 r1, .int .i64 r2, .bool false, .int .i64 r4, .int .i64 r5]) rfl
      have b2' := BlkF (p := ⟨w.heap.size, 3, none⟩) (u := .bool false) (show w.heap.size + 1 ≠ w.heap.size by omega) b1'
      have hX4 : Ext w (W3.setCell ⟨w.heap.size, 3, none⟩ (.bool false)) := ExtS (Nat.le_refl _) hX3
      have ho4 : OwnFl (W3.setCell ⟨w.heap.size, 3, none⟩ (.bool false)) W1.heap.size A1 k c1 gs := ownfl_set (Nat.lt_of_succ_lt HB1lt.out) ho3
      generalize W3.setCell ⟨w.heap.size, 3, none⟩ (.bool false) = W4 at *
      have c2 := b2.cell 2
      have z2 := b2.frozen 2
      clear c3 z3 hX3 ho3 b1 b1'
      go_upto_region 16 with fail
      have b3 := Blk_eq (BlkS (i := 2) (u := .int .i64 0) b2) (cs' := #[.slice A1 k c1, .int .i64 r1, .int .i64 0, .bool false, .int .i64 r4, .int .i64 r5]) rfl
      have b3' := BlkF (p := ⟨w.heap.size, 2, none⟩) (u := .int .i64 0) (show w.heap.size + 1 ≠ w.heap.size by omega) b2'
      have hX5 : Ext w (W4.setCell ⟨w.heap.size, 2, none⟩ (.int .i64 0)) := ExtS (Nat.le_refl _) hX4
      have ho5 : OwnFl (W4.setCell ⟨w.heap.size, 2, none⟩ (.int .i64 0)) W1.heap.size A1 k c1 gs := ownfl_set (Nat.lt_of_succ_lt HB1lt.out) ho4
      generalize W4.setCell ⟨w.heap.size, 2, none⟩ (.int .i64 0) = W5 at *
      clear c2 z2 hX4 ho4 b2 b2'
      go_wp2_with (first
        | (with_reducible refine wpL_load_row rfl 28 (.tmp 2) rfl w.heap.size 28 _ 6 rfl b3 disk_wide (dk_size _ _ _ _ _ _ _ _) ?_)
        | (with_reducible refine wpL_store_row rfl 28 (.tmp 4) (.tmp 72) rfl (w.heap.size + 1) 28 _ _ rfl rfl b3' ((dk_size _ _ _ _ _ _ _ _).trans (dk_size _ _ _ _ _ _ _ _).symm) (dk_one _ _ _ _ _ _ _ _) 6 disk_wide (dk_size _ _ _ _ _ _ _ _) ?_))
      refine bodyPost_ret (res_row rfl _ _ (w.heap.size + 1) 28 _ 6 rfl (Blk.setRow_ b3') disk_wide rfl) rfl ?_
      exact ⟨A1, c1, gs, rfl, HM.out, ExtR (by omega) hX5, (ownfl_row HB1lt.out ho5).low HX1.out.size⟩
end Go.Proofs.YtjajbbgebblalaaGreatDoor

namespace Go.Proofs.YtjajbbgebblalaaGreatDoor
open Go.RowKit
set_option linter.unusedVariables false
set_option linter.unusedSimpArgs false
/-- The blocks of a list of files. -/
def hvB (A : Option Addr) (hs : List HV) (r : Nat) : Prop := A.map (·.block) = some r ∨ ∃ h ∈ hs, h.2.1.map (·.block) = some r
/-- A disk as the document hands it out. -/
def ChPost (w : World) (B0 : Nat) (A : Option Addr) (hs0 : List HV) (L : List FV) (r1 r2 r4 r5 : Int) (r3 : Bool) (e : Ending) (w' : World) : Prop :=
  ∃ A' n' c' hs, e = .returned (.agg #[.slice A' n' c', .int .i64 r1, .int .i64 r2, .bool r3, .int .i64 r4, .int .i64 r5]) ∧ hs.map (·.1) = L ∧ Ext w w' ∧ OwnFl w' B0 A' n' c' hs ∧ ∀ r, hvB A' hs r → hvB A hs0 r ∨ w.heap.size ≤ r
theorem gave_own {w w2 : World} {B0 : Nat} {A' : Option Addr} {c' : Nat} {l : List HV} (hb : B0 ≤ w.heap.size) (h : w2.ownsRow w.heap.size 58 3 (.slice A' l.length c') l.length (flCells l)) (hd : ∀ x ∈ l, w2.ownsRow B0 5 1 (.slice x.2.1 x.1.data.length x.2.2) x.1.data.length (u8s x.1.data)) : OwnFl w2 B0 A' l.length c' l :=
  ⟨own_base h hb, hd⟩
theorem own_new_blk {w : World} {base s n c : Nat} {e : TypeId} {A : Option Addr} {xs : List Value} (h : w.ownsRow base e s (.slice A n c) n xs) {r : Nat} (hr : A.map (·.block) = some r) : base ≤ r := by
  cases A with
  | none => cases hr
  | some a =>
    refine (h.lt r ?_).1
    simpa [Value.ownBlock] using hr
theorem putH_mem {f x : HV} {l : List HV} (h : x ∈ putH f l) : x = f ∨ x ∈ l := by
  induction l with
  | nil => simp [putH] at h; exact .inl h
  | cons y r ih =>
    unfold putH at h
    split at h
    · exact List.mem_cons.1 h
    · rcases List.mem_cons.1 h with h | h
      · exact .inr (by simp [h])
      · rcases ih h with h | h
        · exact .inl h
        · exact .inr (List.mem_cons_of_mem _ h)
theorem ch_end {w wf : World} {B0 B1 n' c' : Nat} {A A' : Option Addr} {hs0 l : List HV} {L : List FV} {r1 r2 r4 r5 : Int} {r3 : Bool} {e : Ending} (he : e = .returned (.agg #[.slice A' n' c', .int .i64 r1, .int .i64 r2, .bool r3, .int .i64 r4, .int .i64 r5])) (hn : n' = l.length) (hL : l.map (·.1) = L) (hx : Ext w wf) (hB : B0 ≤ w.heap.size) (hB1 : w.heap.size ≤ B1)
    (hrow : wf.ownsRow B1 58 3 (.slice A' n' c') n' (flCells l)) (hd : ∀ x ∈ l, (x ∈ hs0 ∧ wf.ownsRow B0 5 1 (.slice x.2.1 x.1.data.length x.2.2) x.1.data.length (u8s x.1.data)) ∨ wf.ownsRow w.heap.size 5 1 (.slice x.2.1 x.1.data.length x.2.2) x.1.data.length (u8s x.1.data) ∨ (wf.ownsRow B0 5 1 (.slice x.2.1 x.1.data.length x.2.2) x.1.data.length (u8s x.1.data) ∧ ∃ y ∈ hs0, y.2.1 = x.2.1)) : ChPost w B0 A hs0 L r1 r2 r4 r5 r3 e wf := by
  refine ⟨A', n', c', l, he, hL, hx, ⟨own_base hrow (by omega), fun x hx => ?_⟩, fun r hr => ?_⟩
  · rcases hd x hx with h | h | h
    · exact h.2
    · exact own_base h hB
    · exact h.1
  · rcases hr with hr | ⟨x, hx, hr⟩
    · exact .inr (Nat.le_trans hB1 (own_new_blk hrow hr))
    · rcases hd x hx with h | h | ⟨_, y, hy, h⟩
      · exact .inl (.inr ⟨x, h.1, hr⟩)
      · exact .inr (own_new_blk h hr)
      · exact .inl (.inr ⟨y, hy, by rw [h]; exact hr⟩)
def opv (K : Int) (nm tg : ByteArray) (Bb : Option Addr) (bl bc : Nat) (N M : Int) (AK : Option Addr) (kl kc : Nat) : Array Value := #[.int .i64 K, .string nm, .string tg, .slice Bb bl bc, .int .i64 N, .int .i64 M, .slice AK kl kc]
theorem dk_zero (w : World) : (Instr.alloc 28 true (.tuple #[])).run Tryz.prog w = .ok (.pointer (some ⟨w.heap.size, 0, none⟩)) (w.alloc (.cells #[.slice none 0 0, .int .i64 0, .int .i64 0, .bool false, .int .i64 0, .int .i64 0] 28)) := by kernel_rfl
set_option maxRecDepth 100000 in
set_option maxHeartbeats 4000000 in
theorem rchange0 (A : Option Addr) (n c B0 : Nat) (hs0 : List HV) (r1 r2 r4 r5 : Int) (r3 : Bool) (nm tg : ByteArray) (Bb : Option Addr) (bl bc : Nat) (N M : Int) (AK : Option Addr) (kl kc : Nat) (w : World) (hr : OwnFl w B0 A n c hs0) (hB : B0 ≤ w.heap.size) (hn : n ≤ 700) :
    Calls Tryz.prog 59 #[.agg #[.slice A n c, .int .i64 r1, .int .i64 r2, .bool r3, .int .i64 r4, .int .i64 r5], .agg #[.int .i64 0, .string nm, .string tg, .slice Bb bl bc, .int .i64 N, .int .i64 M, .slice AK kl kc]] w (ChPost w B0 A hs0 (putV ⟨nm, [], 0⟩ (hs0.map (·.1))) r1 r2 r4 r5 r3) := by
  have HR := Lib.hid hr
  have KP := Lib.hid fun W (hx : Ext w W) => rput_any A n c hs0 ⟨nm, [], 0⟩ none 0 W (RdN.of_own (hr.ext hx).1) (by omega)
  unfold GaveH at KP
  dsimp only [List.length_nil] at KP
  obtain ⟨pl, hpl⟩ : ∃ pl, pl = (putH (⟨nm, [], 0⟩, none, 0) hs0).length := ⟨_, rfl⟩
  rw [← hpl] at KP
  have Hpl := Lib.hid hpl
  clear hr hpl
  go_enter Tryz.func59, Tryz.ntmps59
  go_upto_region 2 with fail
  obtain ⟨W1, hW1⟩ : ∃ W1, W1 = ((w.alloc (.cells #[.slice A n c, .int .i64 r1, .int .i64 r2, .bool r3, .int .i64 r4, .int .i64 r5] 28)).alloc (.cells #[.int .i64 0, .string nm, .string tg, .slice Bb bl bc, .int .i64 N, .int .i64 M, .slice AK kl kc] 44)).alloc (.cells #[.slice none 0 0, .int .i64 0, .int .i64 0, .bool false, .int .i64 0, .int .i64 0] 28) := ⟨_, rfl⟩
  have b1 : Blk W1 w.heap.size 28 #[.slice A n c, .int .i64 r1, .int .i64 r2, .bool r3, .int .i64 r4, .int .i64 r5] := by rw [hW1]; exact BlkA (BlkA (BlkN rfl))
  have b2 : Blk W1 (w.heap.size + 1 + 1) 28 #[.slice none 0 0, .int .i64 0, .int .i64 0, .bool false, .int .i64 0, .int .i64 0] := by rw [hW1]; exact BlkN (by simp)
  have bo : Blk W1 (w.heap.size + 1) 44 #[.int .i64 0, .string nm, .string tg, .slice Bb bl bc, .int .i64 N, .int .i64 M, .slice AK kl kc] := by rw [hW1]; exact BlkA (BlkN (by simp))
  have hX1 : Ext w W1 := by rw [hW1]; exact ExtA (ExtA (ExtA (Ext.rfl' w)))
  have hz1 : Hid (w.heap.size + 1 + 1 < W1.heap.size) := Lib.hid b2.lt
  rw [← hW1]
  clear hW1
  have d0 := b1.cell 0
  have d1 := bo.cell 1
  go_upto_region 3 with (go_at_call 50; (with_reducible refine (KP.out _ hX1).mono ?_); rintro e w2 ⟨A2, c2, rfl, hx2, ho2⟩; have c0 : w2.cell? ⟨w.heap.size, 0, none⟩ = _ := (BlkE b1 hx2).cell 0; have z0 := (BlkE b1 hx2).frozen 0)
  have q1 := Blk_eq (BlkS (i := 0) (u := .slice A2 pl c2) (BlkE b1 hx2)) (cs' := #[.slice A2 pl c2, .int .i64 r1, .int .i64 r2, .bool r3, .int .i64 r4, .int .i64 r5]) rfl
  have q2 := BlkF (p := ⟨w.heap.size, 0, none⟩) (u := .slice A2 pl c2) (show w.heap.size + 1 + 1 ≠ w.heap.size by omega) (BlkE b2 hx2)
  go_wp2_with (first
    | (with_reducible refine wpL_load_row rfl 28 (.tmp 2) rfl w.heap.size 28 _ 6 rfl q1 disk_wide (dk_size _ _ _ _ _ _ _ _) ?_)
    | (with_reducible refine wpL_store_row rfl 28 (.tmp 4) (.tmp 17) rfl (w.heap.size + 1 + 1) 28 _ _ rfl rfl q2 ((dk_size _ _ _ _ _ _ _ _).trans (dk_size _ _ _ _ _ _ _ _).symm) (dk_one _ _ _ _ _ _ _ _) 6 disk_wide (dk_size _ _ _ _ _ _ _ _) ?_))
  refine bodyPost_ret (res_row rfl _ _ (w.heap.size + 1 + 1) 28 _ 6 rfl (Blk.setRow_ q2) disk_wide rfl) rfl ?_
  have hXf : Ext w ((w2.setCell ⟨w.heap.size, 0, none⟩ (.slice A2 pl c2)).setRow (w.heap.size + 1 + 1) #[.slice A2 pl c2, .int .i64 r1, .int .i64 r2, .bool r3, .int .i64 r4, .int .i64 r5]) := ExtR (by omega) (ExtS (Nat.le_refl _) (hX1.tr hx2))
  refine ch_end (l := putH (⟨nm, [], 0⟩, none, 0) hs0) rfl Hpl.out (put_fv _ _) hXf hB hX1.size (own_setRow hz1.out (own_setCell (Nat.lt_of_le_of_lt (by simp; omega) hz1.out) ho2)) (fun x hx => ?_)
  rcases putH_mem hx with rfl | hx
  · exact .inr (.inl (World.ownsRow_nil _ _ _ _))
  · exact .inl ⟨hx, own_ext hXf (HR.out.2 x hx)⟩
end Go.Proofs.YtjajbbgebblalaaGreatDoor
