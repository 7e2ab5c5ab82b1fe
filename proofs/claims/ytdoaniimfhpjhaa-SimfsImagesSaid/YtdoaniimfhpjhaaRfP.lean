/-
  The document's disk, held against the program's (plain law): the files by name behind every call.
-/
import Derived.Test.YtdoaniimfhpjhaaRfC
import Derived.Test.YtdoaniimfhpjhaaLsC
import Derived.Sort.Walk0
namespace Go.Proofs.Ytdoaniimfhpjhaa
open Go.RowKit
set_option linter.unusedVariables false
set_option linter.unusedSimpArgs false
open Go.Maps
open Go.Sort
/-- A list of files by name. -/
def leV (a b : FV) : Bool := leB (bytesOf a.name) (bytesOf b.name)
def SrtV (l : List FV) : Prop := (l.Pairwise fun a b => leV a b = true) ∧ (l.map (·.name)).Nodup
theorem leB_anti {a b : List UInt8} (h1 : leB a b = true) (h2 : leB b a = true) : a = b := by
  simp only [leB, decide_eq_true_eq] at h1 h2
  exact List.le_antisymm h1 h2
theorem ba_list (a : ByteArray) : a.toList = bytesOf a := Lib.toList_data a
theorem ltN_le (a b : ByteArray) : ltN a b = !leB (bytesOf b) (bytesOf a) := by
  unfold ltN
  rw [Proofs.bytesLess_eq, ba_list, ba_list]
  unfold leB
  by_cases h : bytesOf b ≤ bytesOf a
  · rw [decide_eq_true h]
    by_cases h2 : bytesOf b < bytesOf a
    · simp [h2]
    · have : bytesOf b = bytesOf a := List.le_antisymm h (List.not_lt.1 h2)
      simp [this]
  · have h2 : ¬ bytesOf b < bytesOf a := fun hc => h (List.le_of_lt hc)
    have h3 : bytesOf b ≠ bytesOf a := fun hc => h (by rw [hc]; exact List.le_refl _)
    simp [h, h2, h3]
def putV (f : FV) : List FV → List FV
  | [] => [f]
  | x :: r => if ltN f.name x.name then f :: x :: r else x :: putV f r
def takeV (l : List FV) (nm : ByteArray) : List FV := l.filter fun h => decide (h.name ≠ nm)
theorem put_fv (f : HV) (l : List HV) : (putH f l).map (·.1) = putV f.1 (l.map (·.1)) := by
  induction l with
  | nil => rfl
  | cons x r ih =>
    unfold putH gtH
    rw [List.map_cons]
    unfold putV
    split <;> simp [ih]
theorem take_fv (l : List HV) (nm : ByteArray) : (takeH l nm).map (·.1) = takeV (l.map (·.1)) nm := by
  unfold takeH takeV
  rw [List.filter_map]
  rfl
theorem putV_perm (f : FV) (l : List FV) : (putV f l).Perm (f :: l) := by
  induction l with
  | nil => exact List.Perm.refl _
  | cons x r ih =>
    unfold putV
    split
    · exact List.Perm.refl _
    · exact (ih.cons x).trans (List.Perm.swap f x r)
theorem putV_pair {f : FV} {l : List FV} (h : l.Pairwise fun a b => leV a b = true) : (putV f l).Pairwise fun a b => leV a b = true := by
  induction l with
  | nil => simp [putV]
  | cons x r ih =>
    have hx := List.pairwise_cons.1 h
    unfold putV
    split
    · rename_i hlt
      rw [ltN_le] at hlt
      have hfx : leV f x = true := by
        have := leB_total (bytesOf f.name) (bytesOf x.name)
        unfold leV
        cases hc : leB (bytesOf f.name) (bytesOf x.name)
        · rw [hc, Bool.false_or] at this; rw [this] at hlt; cases hlt
        · rfl
      refine List.pairwise_cons.2 ⟨fun y hy => ?_, h⟩
      rcases List.mem_cons.1 hy with rfl | hy
      · exact hfx
      · exact leB_trans _ _ _ hfx (hx.1 y hy)
    · rename_i hlt
      rw [ltN_le] at hlt
      have hxf : leV x f = true := by simpa [leV] using hlt
      refine List.pairwise_cons.2 ⟨fun y hy => ?_, ih hx.2⟩
      rcases List.mem_cons.1 ((putV_perm f r).mem_iff.1 hy) with rfl | hy
      · exact hxf
      · exact hx.1 y hy
theorem srt_eq {a b : List FV} (h : a.Perm b) (h1 : a.Pairwise fun x y => leV x y = true) (h2 : b.Pairwise fun x y => leV x y = true) (hn : (b.map (·.name)).Nodup) : a = b := by
  refine List.Perm.eq_of_pairwise (le := fun x y => leV x y = true) (fun x y hx hy q1 q2 => ?_) h1 h2 h
  have he : x.name = y.name := bytesOf_inj (leB_anti q1 q2)
  have hx2 := h.mem_iff.1 hx
  clear h1 h2 h hx q1 q2
  induction b with
  | nil => cases hy
  | cons z r ih =>
    rw [List.map_cons, List.nodup_cons] at hn
    rcases List.mem_cons.1 hx2 with h1 | h1
    · rcases List.mem_cons.1 hy with h2 | h2
      · rw [h1, h2]
      · exact absurd (List.mem_map.2 ⟨y, h2, by rw [← he, h1]⟩) hn.1
    · rcases List.mem_cons.1 hy with h2 | h2
      · exact absurd (List.mem_map.2 ⟨x, h1, by rw [he, h2]⟩) hn.1
      · exact ih hn.2 h2 h1
theorem img_perm (d : Dk) : (imgL d).Perm (d.files.map Fil.fv) := (sortF_perm d.files).map _
theorem img_pair (d : Dk) : (imgL d).Pairwise fun a b => leV a b = true := List.pairwise_map.2 (sortF_pair d.files)
theorem fv_names (l : List Fil) : (l.map Fil.fv).map (·.name) = l.map (·.name) := by rw [List.map_map]; rfl
theorem img_nodup {d : Dk} (h : (d.files.map (·.name)).Nodup) : ((imgL d).map (·.name)).Nodup := by
  have := (img_perm d).map (fun f => f.name)
  rw [fv_names] at this
  exact this.nodup_iff.2 h
/-- A sorted list of the same files is the image. -/
theorem img_eq {l : List FV} {d : Dk} (h : l.Perm (d.files.map Fil.fv)) (h1 : l.Pairwise fun x y => leV x y = true) (hn : (d.files.map (·.name)).Nodup) : l = imgL d :=
  srt_eq (h.trans (img_perm d).symm) h1 (img_pair d) (img_nodup hn)
theorem takeV_pair {l : List FV} (nm : ByteArray) (h : l.Pairwise fun x y => leV x y = true) : (takeV l nm).Pairwise fun x y => leV x y = true := h.sublist List.filter_sublist
theorem take_img (d : Dk) (nm : ByteArray) : (takeV (imgL d) nm).Perm ((d.files.filter fun f => decide (f.name ≠ nm)).map Fil.fv) := by
  have := (img_perm d).filter (fun h => decide (h.name ≠ nm))
  rw [List.filter_map] at this
  exact this
theorem img_create {d d' : Dk} {nm : ByteArray} (h : d'.files = d.files ++ [⟨nm, [], 0⟩]) (hn : (d'.files.map (·.name)).Nodup) : putV ⟨nm, [], 0⟩ (imgL d) = imgL d' := by
  refine img_eq ?_ (putV_pair (img_pair d)) hn
  rw [h, List.map_append]
  refine (putV_perm _ _).trans (((img_perm d).cons _).trans ?_)
  exact (List.perm_append_singleton _ _).symm
theorem img_data {d d' : Dk} {l1 l2 : List Fil} {f f' : Fil} {nm : ByteArray} (hd : d.files = l1 ++ f :: l2) (hf : f.name = nm) (h1 : ∀ x ∈ l1, x.name ≠ nm) (h2 : ∀ x ∈ l2, x.name ≠ nm) (h : d'.files = l1 ++ f' :: l2) (hn : (d'.files.map (·.name)).Nodup) : putV f'.fv (takeV (imgL d) nm) = imgL d' := by
  refine img_eq ?_ (putV_pair (takeV_pair nm (img_pair d))) hn
  refine (putV_perm _ _).trans (((take_img d nm).cons _).trans ?_)
  rw [h, hd, filter_at hf h1 h2, List.map_append, List.map_append, List.map_cons]
  exact List.perm_middle.symm
theorem img_remove {d d' : Dk} {nm : ByteArray} (h : d'.files = d.files.filter fun f => decide (f.name ≠ nm)) (hn : (d'.files.map (·.name)).Nodup) : takeV (imgL d) nm = imgL d' :=
  img_eq (by rw [h]; exact take_img d nm) (takeV_pair nm (img_pair d)) hn
theorem img_rename {d d' : Dk} {a t : ByteArray} {f : Fil} (h : d'.files = (d.files.filter fun f => decide (f.name ≠ a) && decide (f.name ≠ t)) ++ [f]) (hn : (d'.files.map (·.name)).Nodup) : putV f.fv (takeV (takeV (imgL d) a) t) = imgL d' := by
  refine img_eq ?_ (putV_pair (takeV_pair t (takeV_pair a (img_pair d)))) hn
  refine (putV_perm _ _).trans ?_
  have h3 : (takeV (takeV (imgL d) a) t).Perm ((d.files.filter fun f => decide (f.name ≠ a) && decide (f.name ≠ t)).map Fil.fv) := by
    have := (take_img d a).filter (fun h => decide (h.name ≠ t))
    rw [List.filter_map, List.filter_filter] at this
    refine this.trans ?_
    have e : (d.files.filter fun x => (((fun h : FV => decide (h.name ≠ t)) ∘ Fil.fv) x) && decide (x.name ≠ a)) = d.files.filter fun f => decide (f.name ≠ a) && decide (f.name ≠ t) := by
      congr 1
      funext x
      exact Bool.and_comm _ _
    rw [e]
  refine (h3.cons _).trans ?_
  rw [h, List.map_append]
  exact (List.perm_append_singleton _ _).symm
/-- The error that bars a call, ahead of the fuse; 0: none. -/
def erD (d : Dk) (K : Int) (nm tn : ByteArray) (bl : Nat) (N M : Int) : Nat :=
  if d.down = true then 3 else if rightB nm = false ∨ (K = 3 ∧ rightB tn = false) then 50
  else if K = 0 then (if d.files.any (fun f => decide (f.name = nm)) = true then 52 else if 700 ≤ d.files.length then 53 else 0)
  else if d.files.any (fun f => decide (f.name = nm)) = false then 51
  else if K = 1 ∧ d.room - d.used < (bl : Nat) then 54
  else if K = 5 ∧ (N < 0 ∨ (lenF d nm : Int) < N) then 1
  else if K = 6 ∧ (N < 0 ∨ M < 0 ∨ (lenF d nm : Int) < N ∨ (lenF d nm : Int) - N < M) then 1
  else 0
/-- Where a file stands among the files by name. -/
theorem at_img {d : Dk} (h : (d.files.map (·.name)).Nodup) (nm : ByteArray) : (d.files.any (fun f => decide (f.name = nm)) = false ∧ atI (imgL d) nm = -1 ∧ getF d nm = none) ∨
    ∃ (k : Nat) (f : Fil), d.files.any (fun f => decide (f.name = nm)) = true ∧ atI (imgL d) nm = (k : Nat) ∧ (imgL d)[k]? = some f.fv ∧ f.name = nm ∧ getF d nm = some f ∧ f ∈ d.files := by
  cases ha : d.files.any (fun f => decide (f.name = nm))
  · rw [List.any_eq_false] at ha
    refine .inl ⟨rfl, at_none fun f hf => ?_, List.find?_eq_none.2 fun f hf => ha f hf⟩
    obtain ⟨g, hg, rfl⟩ := List.mem_map.1 ((img_perm d).mem_iff.1 hf)
    simpa [Fil.fv] using ha g hg
  · obtain ⟨l1, f, l2, hl, hn, h1, h2⟩ := split_at h ha
    have hg : getF d nm = some f := by unfold getF; rw [hl]; exact find_at hn h1 h2
    have hfm : f ∈ d.files := by rw [hl]; simp
    rcases at_range (imgL d) nm with h3 | ⟨k, f', h3, h4, h5⟩
    · exfalso
      have hm : f.fv ∈ imgL d := (img_perm d).mem_iff.2 (List.mem_map.2 ⟨f, hfm, rfl⟩)
      unfold atI at h3
      split at h3
      · rename_i i hi; omega
      · rename_i hi
        rw [List.findIdx?_eq_none_iff] at hi
        have := hi _ hm
        simp [Fil.fv, hn] at this
    · obtain ⟨g, hgm, hgf⟩ := List.mem_map.1 ((img_perm d).mem_iff.1 (List.mem_of_getElem? h4))
      have hgn : g.name = nm := by rw [← h5, ← hgf]; rfl
      have hgeq : g = f := by
        rw [hl] at hgm
        rcases List.mem_append.1 hgm with h6 | h6
        · exact absurd hgn (h1 g h6)
        · rcases List.mem_cons.1 h6 with h6 | h6
          · exact h6
          · exact absurd hgn (h2 g h6)
      subst hgeq
      exact .inr ⟨k, g, rfl, h3, by rw [h4, ← hgf], hn, hg, hfm⟩
theorem bar_eq {d : Dk} (h : DkInv d) (K : Int) (nm tn : ByteArray) (bl : Nat) (N M : Int) : barE (imgL d) d.room d.down K nm tn bl N M = (erD d K nm tn bl N M : Nat) := by
  have hu : (sumV (imgL d) : Int) = d.used := by rw [sumV_img]; exact h.ok.1.symm
  unfold barE erD
  rw [hu, imgL_len]
  rcases at_img h.nd nm with ⟨ha, hi, hg⟩ | ⟨k, f, ha, hi, hk, hn, hg, hm⟩
  · rw [hi, ha]
    have e1 : ¬ (0 : Int) ≤ -1 := by decide
    have e2 : (-1 : Int) < 0 := by decide
    simp only [e1, e2, if_false, if_true, Bool.false_eq_true]
    split <;> try rfl
    split <;> try rfl
    split <;> try rfl
    split <;> rfl
  · have hl : lenF d nm = f.data.length := by unfold lenF; rw [hg]; rfl
    have hl2 : (((imgL d)[((k : Nat) : Int).toNat]?.map (·.data.length)).getD 0) = f.data.length := by
      rw [Int.toNat_natCast, hk]; rfl
    rw [hi, ha, hl, hl2]
    have e1 : (0 : Int) ≤ (k : Nat) := by omega
    have e2 : ¬ ((k : Nat) : Int) < 0 := by omega
    simp only [e1, e2, if_false, if_true, Bool.true_eq_false]
    split <;> try rfl
    split <;> try rfl
    split <;> try rfl
    split <;> try rfl
    split <;> try rfl
    split <;> rfl
/-- The disk as the document has it. -/
structure Rk where
  fs : List FV
  room : Int
  fuse : Int
  down : Bool
  steps : Int
  reads : Int
def rkOf (d : Dk) : Rk := ⟨imgL d, d.room, d.fuse, d.down, d.steps, d.read⟩
theorem erD_open {d : Dk} {K : Int} {nm tn : ByteArray} {bl : Nat} {N M : Int} (h : erD d K nm tn bl N M = 0) : d.down = false ∧ rightB nm = true ∧ (K = 3 → rightB tn = true) ∧ (K = 0 → d.files.any (fun f => decide (f.name = nm)) = false ∧ d.files.length < 700) ∧ (K ≠ 0 → d.files.any (fun f => decide (f.name = nm)) = true) ∧
    (K = 1 → ¬ d.room - d.used < (bl : Nat)) ∧ (K = 5 → ¬ (N < 0 ∨ (lenF d nm : Int) < N)) ∧ (K = 6 → ¬ (N < 0 ∨ M < 0 ∨ (lenF d nm : Int) < N ∨ (lenF d nm : Int) - N < M)) := by
  unfold erD at h
  split at h
  · cases h
  rename_i h1
  split at h
  · cases h
  rename_i h2
  have hd : d.down = false := by simpa using h1
  have hr : rightB nm = true := by
    cases hc : rightB nm
    · exact absurd (.inl hc) h2
    · rfl
  have ht : K = 3 → rightB tn = true := fun hk => by
    cases hc : rightB tn
    · exact absurd (.inr ⟨hk, hc⟩) h2
    · rfl
  split at h
  · rename_i hk
    split at h
    · cases h
    rename_i h3
    split at h
    · cases h
    rename_i h4
    exact ⟨hd, hr, ht, fun _ => ⟨by simpa using h3, by omega⟩, fun hc => absurd hk hc, by omega, by omega, by omega⟩
  · rename_i hk
    split at h
    · cases h
    rename_i h3
    split at h
    · cases h
    rename_i h4
    split at h
    · cases h
    rename_i h5
    split at h
    · cases h
    rename_i h6
    exact ⟨hd, hr, ht, fun hc => absurd hc hk, fun _ => by simpa using h3, fun hc hn => h4 ⟨hc, hn⟩, fun hc hn => h5 ⟨hc, hn⟩, fun hc hn => h6 ⟨hc, hn⟩⟩
theorem openE_yes {d : Dk} {nm : ByteArray} (h1 : d.down = false) (h2 : rightB nm = true) (h3 : d.files.any (fun f => decide (f.name = nm)) = true) : openE d nm = 0 := by
  unfold openE
  rw [h1, h2, h3]
  rfl
theorem openE_no {d : Dk} {nm : ByteArray} (h1 : d.down = false) (h2 : rightB nm = true) (h3 : d.files.any (fun f => decide (f.name = nm)) = false) : openE d nm = 51 := by
  unfold openE
  rw [h1, h2, h3]
  rfl
/-- A call that is barred changes nothing. -/
theorem call_bar {d : Dk} {o : Op10} (hk : 0 ≤ o.k ∧ o.k ≤ 7) (h : erD d o.k o.name o.tgt o.b.length o.n o.m ≠ 0) : callD d o = (d, [], 0, erD d o.k o.name o.tgt o.b.length o.n o.m) := by
  have hc : o.k = 0 ∨ o.k = 1 ∨ o.k = 2 ∨ o.k = 3 ∨ o.k = 4 ∨ o.k = 5 ∨ o.k = 6 ∨ o.k = 7 := by omega
  obtain ⟨k, nm, tn, b, n, m, kp⟩ := o
  dsimp only at *
  unfold erD at h ⊢
  unfold callD
  cases hd : d.down
  case true =>
    rcases hc with rfl | rfl | rfl | rfl | rfl | rfl | rfl | rfl <;> simp [createD, appendD, syncD, renameD, removeD, cutD, readD, sizeD, openE, hd]
  case false =>
  cases hr : rightB nm
  case false =>
    rcases hc with rfl | rfl | rfl | rfl | rfl | rfl | rfl | rfl <;> simp [createD, appendD, syncD, renameD, removeD, cutD, readD, sizeD, openE, hd, hr]
  case true =>
  cases ha : d.files.any (fun f => decide (f.name = nm))
  case false =>
    rw [hd, hr, ha] at h
    rcases hc with rfl | rfl | rfl | rfl | rfl | rfl | rfl | rfl <;> simp [createD, appendD, syncD, renameD, removeD, cutD, readD, sizeD, openE, hd, hr, ha] at h ⊢
    · simp [h]
    · cases ht : rightB tn <;> simp
  case true =>
    rw [hd, hr, ha] at h
    have hl : (((getF d nm).map (·.data)).getD []).length = lenF d nm := by unfold lenF; cases getF d nm <;> rfl
    rcases hc with rfl | rfl | rfl | rfl | rfl | rfl | rfl | rfl <;> simp [createD, appendD, syncD, renameD, removeD, cutD, readD, sizeD, openE, hd, hr, ha, hl] at h ⊢
    · simp [h]
    · simp [h]
    · have h1 : n < 0 ∨ (lenF d nm : Int) < n := by omega
      simp [h1]
    · have h1 : n < 0 ∨ m < 0 ∨ (lenF d nm : Int) < n ∨ (lenF d nm : Int) - n < m := by omega
      simp [h1]
/-- A call that only reads. -/
theorem call_read6 {d : Dk} {o : Op10} {f : Fil} (hk : o.k = 6) (h : erD d o.k o.name o.tgt o.b.length o.n o.m = 0) (hg : getF d o.name = some f) : callD d o = ({ d with read := wrap64 (d.read + o.m) }, (f.data.drop o.n.toNat).take o.m.toNat, 0, 0) := by
  obtain ⟨h1, h2, _, _, h5, _, _, h8⟩ := erD_open h
  have h9 := h8 hk
  have ho := openE_yes h1 h2 (h5 (by omega))
  have hl : lenF d o.name = f.data.length := by unfold lenF; rw [hg]; rfl
  rw [hl] at h9
  obtain ⟨k, nm, tn, b, n, m, kp⟩ := o
  dsimp only at *
  subst hk
  unfold callD readD
  simp only [ho, hg, Option.map_some, Option.getD_some]
  rw [if_neg (by simp), if_neg h9]
  simp
theorem call_size7 {d : Dk} {o : Op10} {f : Fil} (hk : o.k = 7) (h : erD d o.k o.name o.tgt o.b.length o.n o.m = 0) (hg : getF d o.name = some f) : callD d o = (d, [], f.data.length, 0) := by
  obtain ⟨h1, h2, _, _, h5, _⟩ := erD_open h
  have ho := openE_yes h1 h2 (h5 (by omega))
  obtain ⟨k, nm, tn, b, n, m, kp⟩ := o
  dsimp only at *
  subst hk
  unfold callD sizeD
  simp only [ho, hg]
  simp
/-- What a step that goes makes of the files. -/
def chFil (d : Dk) (o : Op10) : List Fil :=
  if o.k = 0 then d.files ++ [⟨o.name, [], 0⟩] else if o.k = 1 then dataD d o.name (fun f => { f with data := f.data ++ o.b })
  else if o.k = 2 then dataD d o.name (fun f => { f with safe := f.data.length }) else if o.k = 3 then (if o.name = o.tgt then d.files else renF d o.name o.tgt)
  else if o.k = 4 then d.files.filter (fun f => decide (f.name ≠ o.name)) else dataD d o.name (fun f => { f with data := f.data.take o.n.toNat, safe := min f.safe o.n.toNat })
/-- A step: the power fails in it, or it goes. -/
theorem call_step {d : Dk} {o : Op10} (hk : 0 ≤ o.k ∧ o.k ≤ 5) (h : erD d o.k o.name o.tgt o.b.length o.n o.m = 0) (hf : 0 ≤ d.fuse) :
    (d.fuse = 1 → ∃ u, callD d o = ({ d with fuse := 0, down := true, files := if o.k = 1 then chFil d o else d.files, used := u }, [], 0, 3)) ∧
    (d.fuse ≠ 1 → ∃ u, callD d o = ({ d with fuse := if 1 < d.fuse then d.fuse - 1 else d.fuse, steps := d.steps + 1, files := chFil d o, used := u }, [], 0, 0)) := by
  obtain ⟨h1, h2, h3, h4, h5, h6, h7, _⟩ := erD_open h
  have hc : o.k = 0 ∨ o.k = 1 ∨ o.k = 2 ∨ o.k = 3 ∨ o.k = 4 ∨ o.k = 5 := by omega
  clear h
  obtain ⟨k, nm, tn, b, n, m, kp⟩ := o
  dsimp only at *
  refine ⟨fun h9 => ?_, fun h9 => ?_⟩
  · have hs : stepD d = ({ d with fuse := 0, down := true }, false) := by unfold stepD; rw [if_pos (by omega), if_pos h9]
    rcases hc with rfl | rfl | rfl | rfl | rfl | rfl
    · have ho := openE_no h1 h2 (h4 rfl).1
      have := (h4 rfl).2
      exact ⟨d.used, by simp [callD, createD, ho, hs, show ¬ 700 ≤ d.files.length by omega]⟩
    · have ho := openE_yes h1 h2 (h5 (by decide))
      exact ⟨d.used + (b.length : Nat), by simp [callD, appendD, chFil, ho, hs, h6 rfl]⟩
    · have ho := openE_yes h1 h2 (h5 (by decide))
      exact ⟨d.used, by simp [callD, syncD, ho, hs]⟩
    · have ho := openE_yes h1 h2 (h5 (by decide))
      exact ⟨d.used, by simp [callD, renameD, ho, hs, h3 rfl]⟩
    · have ho := openE_yes h1 h2 (h5 (by decide))
      exact ⟨d.used, by simp [callD, removeD, ho, hs]⟩
    · have ho := openE_yes h1 h2 (h5 (by decide))
      exact ⟨d.used, by simp [callD, cutD, ho, hs, h7 rfl]⟩
  · have hs : stepD d = ({ d with fuse := if 1 < d.fuse then d.fuse - 1 else d.fuse, steps := d.steps + 1 }, true) := by
      unfold stepD
      by_cases hp : 0 < d.fuse
      · rw [if_pos hp, if_neg h9, if_pos (by omega)]
      · rw [if_neg hp, if_neg (by omega)]
    rcases hc with rfl | rfl | rfl | rfl | rfl | rfl
    · have ho := openE_no h1 h2 (h4 rfl).1
      have := (h4 rfl).2
      exact ⟨d.used, by simp [callD, createD, chFil, ho, hs, show ¬ 700 ≤ d.files.length by omega]⟩
    · have ho := openE_yes h1 h2 (h5 (by decide))
      exact ⟨d.used + (b.length : Nat), by simp [callD, appendD, chFil, ho, hs, h6 rfl]⟩
    · have ho := openE_yes h1 h2 (h5 (by decide))
      exact ⟨d.used, by simp [callD, syncD, chFil, ho, hs]⟩
    · have ho := openE_yes h1 h2 (h5 (by decide))
      by_cases he : nm = tn
      · subst he
        exact ⟨d.used, by simp [callD, renameD, chFil, ho, hs, h3 rfl]⟩
      · exact ⟨d.used - (lenF d tn : Nat), by simp [callD, renameD, chFil, ho, hs, he, h3 rfl]⟩
    · have ho := openE_yes h1 h2 (h5 (by decide))
      exact ⟨d.used - (lenF d nm : Nat), by simp [callD, removeD, chFil, ho, hs]⟩
    · have ho := openE_yes h1 h2 (h5 (by decide))
      exact ⟨d.used - ((lenF d nm : Int) - n), by simp [callD, cutD, chFil, ho, hs, h7 rfl]⟩
/-- What the document's change makes of the files by name; f: the file (not looked at by a create). -/
def chV (L : List FV) (f : FV) (o : Op10) : List FV :=
  if o.k = 0 then putV ⟨o.name, [], 0⟩ L else if o.k = 1 then putV ⟨o.name, f.data ++ o.b, f.safe⟩ (takeV L o.name)
  else if o.k = 2 then putV ⟨o.name, f.data, (f.data.length : Nat)⟩ (takeV L o.name) else if o.k = 3 then putV ⟨o.tgt, f.data, f.safe⟩ (takeV (takeV L o.name) o.tgt)
  else if o.k = 4 then takeV L o.name else putV ⟨o.name, f.data.take o.n.toNat, min f.safe o.n⟩ (takeV L o.name)
theorem ch_img {d d' : Dk} {o : Op10} {f : Fil} (hI : DkInv d) (hI' : DkInv d') (hk : 0 ≤ o.k ∧ o.k ≤ 5) (hn : o.k = 5 → 0 ≤ o.n) (h : d'.files = chFil d o) (hg : o.k ≠ 0 → getF d o.name = some f) : chV (imgL d) f.fv o = imgL d' := by
  have hc : o.k = 0 ∨ o.k = 1 ∨ o.k = 2 ∨ o.k = 3 ∨ o.k = 4 ∨ o.k = 5 := by omega
  have hnd := hI'.nd
  obtain ⟨k, nm, tn, b, n, m, kp⟩ := o
  dsimp only at *
  by_cases h0 : k = 0
  · subst h0
    exact img_create h hnd
  · have hg := hg h0
    have ha : d.files.any (fun f => decide (f.name = nm)) = true := by
      unfold getF at hg
      rw [List.any_eq_true]
      exact ⟨f, List.mem_of_find?_eq_some hg, by simpa using List.find?_some hg⟩
    obtain ⟨l1, f1, l2, hl, hfn, h1, h2⟩ := split_at hI.nd ha
    have hf1 : f1 = f := by
      unfold getF at hg
      rw [hl, find_at hfn h1 h2] at hg
      injection hg
    subst hf1
    have hgf : getF d nm = some f1 := hg
    rcases hc with rfl | rfl | rfl | rfl | rfl | rfl
    · exact absurd rfl h0
    · have h' : d'.files = l1 ++ { f1 with data := f1.data ++ b } :: l2 := by rw [h]; show dataD d nm _ = _; unfold dataD; rw [hl]; exact map_at hfn h1 h2 _
      have := img_data hl hfn h1 h2 h' hnd
      rw [← this, ← hfn]
      rfl
    · have h' : d'.files = l1 ++ { f1 with safe := f1.data.length } :: l2 := by rw [h]; show dataD d nm _ = _; unfold dataD; rw [hl]; exact map_at hfn h1 h2 _
      have := img_data hl hfn h1 h2 h' hnd
      rw [← this, ← hfn]
      rfl
    · have h' : d'.files = if nm = tn then d.files else renF d nm tn := h
      by_cases he : nm = tn
      · rw [if_pos he] at h'
        have := img_data hl hfn h1 h2 (h'.trans hl) hnd
        subst he
        show putV _ (takeV (takeV (imgL d) nm) nm) = _
        have e : takeV (takeV (imgL d) nm) nm = takeV (imgL d) nm := by unfold takeV; rw [List.filter_filter]; congr 1; funext x; simp
        rw [e, ← this, ← hfn]
        rfl
      · rw [if_neg he] at h'
        unfold renF at h'
        rw [hgf] at h'
        exact img_rename (f := { f1 with name := tn }) h' hnd
    · exact img_remove h hnd
    · have h' : d'.files = l1 ++ { f1 with data := f1.data.take n.toNat, safe := min f1.safe n.toNat } :: l2 := by rw [h]; show dataD d nm _ = _; unfold dataD; rw [hl]; exact map_at hfn h1 h2 _
      have := img_data hl hfn h1 h2 h' hnd
      rw [← this, ← hfn]
      have e : min (f1.safe : Int) n = ((min f1.safe n.toNat : Nat) : Int) := by have := hn rfl; omega
      unfold chV Fil.fv
      dsimp only
      rw [e]
      rfl
/-- Restart, by the sentence: over the files by name. -/
def rstV (keep : List Int) (i : Nat) (f : FV) : FV :=
  { f with data := f.data.take (f.safe.toNat + (if i < keep.length then min (keep.getD i 0).toNat (f.data.length - f.safe.toNat) else 0)), safe := ((f.safe.toNat + (if i < keep.length then min (keep.getD i 0).toNat (f.data.length - f.safe.toNat) else 0) : Nat) : Int) }
theorem img_restart {d : Dk} (keep : List Int) (hI : DkInv (restartD d keep)) : (imgL d).mapIdx (rstV keep) = imgL (restartD d keep) := by
  have e : (imgL d).mapIdx (rstV keep) = (restL keep (sortF d.files)).map Fil.fv := by
    unfold imgL restL
    rw [List.mapIdx_eq_zipIdx_map, List.mapIdx_eq_zipIdx_map, List.zipIdx_map, List.map_map, List.map_map]
    refine List.map_congr_left fun x hx => ?_
    rfl
  refine img_eq (by rw [e]; exact List.Perm.refl _) ?_ hI.nd
  have hp := img_pair d
  rw [List.mapIdx_eq_zipIdx_map]
  refine List.pairwise_map.2 ?_
  have hz : ((imgL d).zipIdx.map (·.1)) = imgL d := List.zipIdx_map_fst 0 _
  rw [← hz] at hp
  exact (List.pairwise_map.1 hp).imp fun {a b} hab => hab
end Go.Proofs.Ytdoaniimfhpjhaa
