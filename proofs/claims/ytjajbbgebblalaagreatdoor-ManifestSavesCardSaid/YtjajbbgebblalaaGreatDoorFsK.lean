/-
  A disk in memory; Remove, Cut.
-/
/-
  A disk in memory; Cut, Rename.
-/
import Derived.Test.YtjajbbgebblalaaGreatDoorFsR
import Derived.StillTailTactics
import Derived.Test.YtjajbbgebblalaaGreatDoorHand
namespace Go.Proofs.YtjajbbgebblalaaGreatDoor
open Go.RowKit
set_option linter.unusedVariables false
set_option linter.unusedSimpArgs false
open Go.Maps
def lenF (d : Dk) (nm : ByteArray) : Nat := ((getF d nm).map (·.data.length)).getD 0
def removeD (d : Dk) (nm : ByteArray) : Dk × Nat :=
  if openE d nm ≠ 0 then (d, openE d nm) else if (stepD d).2 = true then ({ (stepD d).1 with files := d.files.filter (fun f => decide (f.name ≠ nm)), used := d.used - (lenF d nm : Nat) }, 0) else ((stepD d).1, 3)
theorem map_del {D : DataW Value} {l : List (ByteArray × Nat)} (h : MapL D l) (nm : ByteArray) : MapL (D.del (nmLit nm)) (l.filter fun x => decide (x.1 ≠ nm)) := by
  obtain ⟨h1, h2, h3, h4, h5⟩ := h
  have hnd : (l.filter fun x => decide (x.1 ≠ nm)).length + (if l.any (fun p => decide (p.1 = nm)) then 1 else 0) = l.length := by
    clear h2 h4 h5
    induction l with
    | nil => rfl
    | cons a l ih =>
      rw [List.map_cons, List.nodup_cons] at h3
      have ih := ih h3.2
      by_cases ha : a.1 = nm
      · have hno : l.any (fun p => decide (p.1 = nm)) = false := by
          rw [List.any_eq_false]
          intro x hx hc
          exact h3.1 (List.mem_map.2 ⟨x, hx, by rw [ha]; simpa using hc⟩)
        rw [hno] at ih
        simp [ha] at ih ⊢
        exact ih
      · rw [List.filter_cons_of_pos (by simpa using ha), List.any_cons, show decide (a.1 = nm) = false by simpa using ha, Bool.false_or, List.length_cons, List.length_cons]
        omega
  refine ⟨h1.del _, ?_, ?_, fun k => ?_, fun k q hq z => ?_⟩
  · have := size_del (k := nmLit nm) h1
    rw [h4] at this
    omega
  · exact (List.Sublist.map _ List.filter_sublist).nodup h3
  · by_cases hk : k = nm
    · subst hk
      rw [has_del_same]
      symm
      rw [List.any_eq_false]
      intro x hx
      have := (List.mem_filter.1 hx).2
      simpa using this
    · rw [has_del_other (fun hc => hk (nmLit_inj hc)), h4]
      rw [Bool.eq_iff_iff]
      simp only [List.any_eq_true, List.mem_filter, decide_eq_true_eq]
      constructor
      · rintro ⟨x, hx, rfl⟩
        exact ⟨x, ⟨hx, hk⟩, rfl⟩
      · rintro ⟨x, ⟨hx, _⟩, rfl⟩
        exact ⟨x, hx, rfl⟩
  · have hq2 := List.mem_filter.1 hq
    rw [atKey_del_other (fun hc => by simp at hq2; exact hq2.2 (nmLit_inj hc))]
    exact h5 k q hq2.1 z
theorem map_drop {w : World} {b : Nat} {D : DataW Value} (ho : OwnM w b D) {nm : ByteArray} (hs : nm.size ≤ maxLen) (ty : TypeId) :
    ∃ w', (Builtin.delete_ #[107, 9] ty #[.map (some b), .string nm]).run Tryz.prog w = .ok (.tuple #[]) w' ∧ OwnM w' b (D.del (nmLit nm)) ∧ w.grownBy w' (some b) := by
  obtain ⟨n, hn, ho⟩ := ho
  obtain ⟨w', h1, h2, es, clock, es', clock', h3, rfl⟩ := ho.drop key_law Tryz.underlying107 (key_str nm hs) ty
  exact ⟨_, h1, ⟨n, hn, h2⟩, ⟨rfl, rfl, rfl, by simp [ChangeMaps.setBlock], fun i _ hi => ChangeMaps.heap_setBlock_other h3 _ (fun e => hi (by rw [e]))⟩⟩
theorem flat_sub {q : HF → Bool} : ∀ l : List HF, ((l.filter q).flatMap footH).Sublist (l.flatMap footH)
  | [] => List.Sublist.slnil
  | a :: l => by
    rw [List.filter_cons, List.flatMap_cons]
    split
    · rw [List.flatMap_cons]
      exact (List.Sublist.refl _).append (flat_sub l)
    · exact (flat_sub l).trans (List.sublist_append_right _ _)
theorem foot_sub (g b : Nat) (q : HF → Bool) (l : List HF) : (foot g b (l.filter q)).Sublist (foot g b l) := ((flat_sub l).cons_cons b).cons_cons g
/-- Files are gone: the map, and the disk's own cells. -/
theorem fs_drop {W w w' : World} {g b : Nat} {d d' : Dk} {D D' : DataW Value} {hs : List HF} (q : HF → Bool) (h : FsX W w g d b D hs) (ht : Turn [g, b] w w') (hb : Blk w' g 109 (fscells b d')) (ho : OwnM w' b D')
    (hm : MapL D' ((hs.filter q).map fun h => (h.1.name, h.2.1))) (hd : d'.files = (hs.filter q).map (·.1)) : FsTo W w w' g b hs d' := by
  have hsub := foot_sub g b q hs
  have hF : ∀ r ∈ [g, b], r ∈ foot g b hs := fun r hr => by simp at hr; rcases hr with rfl | rfl; exact foot_g; exact foot_b
  refine ⟨D', hs.filter q, { ext := ht.ext h.ext (fun r hr => h.base r (hF r hr)), blk := hb, own := ho, map := hm, fil := fun k hk => ?_, dis := hsub.nodup h.dis, base := fun r hr => h.base r (hsub.subset hr), lt := fun r hr => Nat.lt_of_lt_of_le (h.lt r (hsub.subset hr)) ht.size, hsd := hd.symm, cnt := Nat.le_trans (List.length_filter_le _ _) h.cnt }, ht.mono (fun r hr => .inl (hF r hr)), fun r hr => .inl (hsub.subset hr)⟩
  have hk' := (List.mem_filter.1 hk).1
  refine (h.fil k hk').turn ht fun r hr hc => ?_
  have := foot_gh h.dis hk' hr
  simp at hc
  rcases hc with hc | hc
  · exact this.1 hc
  · exact this.2 hc
theorem openE_right {d : Dk} {nm : ByteArray} (h : openE d nm = 0) : rightB nm = true := by
  unfold openE at h
  split at h
  · omega
  · split at h
    · omega
    · rename_i h2; simpa using h2
end Go.Proofs.YtjajbbgebblalaaGreatDoor

namespace Go.Proofs.YtjajbbgebblalaaGreatDoor
open Go.RowKit
set_option linter.unusedVariables false
set_option linter.unusedSimpArgs false
open Go.Maps
def cutD (d : Dk) (nm : ByteArray) (n : Int) : Dk × Nat :=
  if openE d nm ≠ 0 then (d, openE d nm) else if n < 0 ∨ (lenF d nm : Int) < n then (d, 1) else
  if (stepD d).2 = true then ({ (stepD d).1 with files := dataD d nm (fun f => { f with data := f.data.take n.toNat, safe := min f.safe n.toNat }), used := d.used - ((lenF d nm : Int) - n) }, 0) else ((stepD d).1, 3)
theorem slice_cut (A : Option Addr) (n c k : Nat) (hk : k ≤ c) (W : World) : (Instr.slice 36 (.slice A n c) none (some (.int .i64 (k : Nat))) (some (.int .i64 (k : Nat)))).run Tryz.prog W = .ok (.slice A k k) W := by
  rw [run_slice_hm W 36 A n c elem_u8 .i64 .i64 k k (by omega) (by omega) (by omega), size_u8, Result.andThen_ok]
  cases A <;> simp [sliced, Addr.add]
theorem getF_len {W w : World} {g b : Nat} {d : Dk} {D : DataW Value} {l1 l2 : List HF} {nm : ByteArray} {fd : List UInt8} {fs p c0 : Nat} {A : Option Addr} (h : FsX W w g d b D (l1 ++ (⟨nm, fd, fs⟩, p, A, c0) :: l2)) : lenF d nm = fd.length := by
  unfold lenF; rw [getF_eq h (f := (⟨nm, fd, fs⟩, p, A, c0)) rfl]; rfl
theorem file_lim {W w : World} {g b : Nat} {d : Dk} {D : DataW Value} {l1 l2 : List HF} {nm : ByteArray} {fd : List UInt8} {fs p c0 : Nat} {A : Option Addr} (h : FsX W w g d b D (l1 ++ (⟨nm, fd, fs⟩, p, A, c0) :: l2)) (hk : DkOk d) :
    (fd.length : Int) ≤ d.used ∧ d.used ≤ 67108864 ∧ fd.length ≤ c0 := by
  have h1 := len_le_used hk (f := ⟨nm, fd, fs⟩) (by rw [← h.hsd]; exact List.mem_map.2 ⟨((⟨nm, fd, fs⟩, p, A, c0) : HF), by simp, rfl⟩)
  dsimp only at h1
  have := hk.2.1; have := hk.2.2
  refine ⟨h1, by omega, ?_⟩
  rcases (h.fil (⟨nm, fd, fs⟩, p, A, c0) (by simp)).2.2 with ⟨hv, h2⟩ | ⟨g2, cap, cur, hv, _, _, h2, h3, _⟩
  · injection hv with _ h3 h4; dsimp only at h2 h4; omega
  · injection hv with _ h5 h4; dsimp only at h2 h4; subst h4; exact h2
theorem fs_cut {W w3 : World} {g b p n0 c0 k fs m : Nat} {d1 : Dk} {D : DataW Value} {l1 l2 : List HF} {nm : ByteArray} {fd : List UInt8} {A : Option Addr} (h : FsX W w3 g d1 b D (l1 ++ (⟨nm, fd, fs⟩, p, A, c0) :: l2)) (hk : k ≤ n0) (hn : n0 = fd.length) (hm : m = min fs k) (u : Int) :
    FsTo W w3 (((w3.setCell ⟨g, 2, none⟩ (.int .i64 u)).setCell ⟨p, 0, none⟩ (.slice A k k)).setCell ⟨p, 1, none⟩ (.int .i64 (m : Nat))) g b (l1 ++ (⟨nm, fd, fs⟩, p, A, c0) :: l2) { d1 with files := dataD d1 nm (fun f => { f with data := f.data.take k, safe := min f.safe k }), used := u } := by
  subst hn hm
  have hfm : ((⟨nm, fd, fs⟩, p, A, c0) : HF) ∈ l1 ++ (⟨nm, fd, fs⟩, p, A, c0) :: l2 := by simp
  have hpf : p ∈ footH ((⟨nm, fd, fs⟩, p, A, c0) : HF) := by simp [footH]
  have hpg := (foot_gh h.dis hfm hpf).1
  obtain ⟨hF, hO⟩ := h.fil _ hfm
  have hlen : (fd.take k).length = k := by rw [List.length_take]; omega
  refine fs_data (f' := (⟨nm, fd.take k, min fs k⟩, p, A, k)) h rfl rfl (((Turn.cell (by simp)).tr (Turn.cell (by simp [footH]))).tr (Turn.cell (by simp [footH]))) ?_ ⟨?_, ?_⟩ (fun r hr => .inl hr) (dataD_eq h rfl _ _)
  · exact Blk_eq (BlkF hpg.symm (BlkF hpg.symm (BlkS h.blk))) (by simp [fscells])
  · exact Blk_eq (BlkS (BlkS (BlkF hpg hF))) (by simp [filcells, hlen])
  · dsimp only
    rw [hlen]
    have h2 := hO.cut hk
    have hne := OwnC.ne hF h2 (by decide)
    have hge := OwnC.ne h.blk h2 (by decide)
    have no : ∀ x, some x ≠ (Value.slice A k k).ownBlock → ∀ r, (Value.slice A k k).ownBlock = some r → r ∉ [x] := fun x hx r hr hc => by simp at hc; subst hc; exact hx hr.symm
    exact Turn.ownC (F := [p]) (Turn.cell (by simp)) (Turn.ownC (F := [p]) (Turn.cell (by simp)) (Turn.ownC (F := [g]) (Turn.cell (by simp)) h2 (no g hge)) (no p hne)) (no p hne)
def renF (d : Dk) (a t : ByteArray) : List Fil := (d.files.filter fun f => decide (f.name ≠ a) && decide (f.name ≠ t)) ++ ((getF d a).map fun f => { f with name := t }).toList
def renameD (d : Dk) (a t : ByteArray) : Dk × Nat :=
  if (openE d a = 0 ∨ openE d a = 51) ∧ rightB t = false then (d, 50) else if openE d a ≠ 0 then (d, openE d a) else
  if (stepD d).2 = false then ((stepD d).1, 3) else if a = t then ((stepD d).1, 0) else
  ({ (stepD d).1 with files := renF d a t, used := d.used - (lenF d t : Nat) }, 0)
theorem filt_len {l : List (ByteArray × Nat)} (h3 : (l.map (·.1)).Nodup) (nm : ByteArray) : (l.filter fun x => decide (x.1 ≠ nm)).length + (if l.any (fun p => decide (p.1 = nm)) then 1 else 0) = l.length := by
  induction l with
  | nil => rfl
  | cons a l ih =>
    rw [List.map_cons, List.nodup_cons] at h3
    have ih := ih h3.2
    by_cases ha : a.1 = nm
    · have hno : l.any (fun p => decide (p.1 = nm)) = false := by
        rw [List.any_eq_false]
        intro x hx hc
        exact h3.1 (List.mem_map.2 ⟨x, hx, by rw [ha]; simpa using hc⟩)
      rw [hno] at ih
      simp [ha] at ih ⊢
      exact ih
    · rw [List.filter_cons_of_pos (by simpa using ha), List.any_cons, show decide (a.1 = nm) = false by simpa using ha, Bool.false_or, List.length_cons, List.length_cons]
      omega
theorem map_set {D : DataW Value} {l : List (ByteArray × Nat)} (h : MapL D l) (nm : ByteArray) (p : Nat) : MapL (D.put (nmLit nm) (.held (ptrV p))) ((l.filter fun x => decide (x.1 ≠ nm)) ++ [(nm, p)]) := by
  by_cases hin : ∀ x ∈ l, x.1 ≠ nm
  · have : (l.filter fun x => decide (x.1 ≠ nm)) = l := List.filter_eq_self.2 fun x hx => by simpa using hin x hx
    rw [this]
    exact map_put h nm p hin
  · obtain ⟨h1, h2, h3, h4, h5⟩ := h
    have hany : l.any (fun p => decide (p.1 = nm)) = true := by
      rw [List.any_eq_true]
      by_cases hc : ∃ x ∈ l, x.1 = nm
      · obtain ⟨x, hx, hn⟩ := hc; exact ⟨x, hx, by simpa using hn⟩
      · exact absurd (fun x hx hn => hc ⟨x, hx, hn⟩) hin
    have hlen := filt_len h3 nm
    rw [hany, if_pos rfl] at hlen
    refine ⟨h1.put (isKey nm) _, ?_, ?_, fun k => ?_, fun k q hq z => ?_⟩
    · rw [size_put h1, h4, hany, List.length_append]
      simp [h2] at hlen ⊢
      omega
    · rw [List.map_append, List.nodup_append]
      refine ⟨h3.sublist (List.filter_sublist.map _), by simp, fun a ha b hb => ?_⟩
      simp only [List.map_cons, List.map_nil, List.mem_singleton] at hb
      subst hb
      obtain ⟨x, hx, rfl⟩ := List.mem_map.1 ha
      simpa using (List.mem_filter.1 hx).2
    · by_cases hk : k = nm
      · subst hk; rw [has_put_same h1.isMap (isKey _)]; simp
      · rw [has_put_other (fun hc => hk (nmLit_inj hc)), h4]
        have hk2 : ¬ nm = k := fun hc => hk hc.symm
        rw [List.any_append, Bool.eq_iff_iff]
        simp only [List.any_eq_true, List.mem_filter, decide_eq_true_eq, Bool.or_eq_true, List.mem_singleton]
        constructor
        · rintro ⟨x, hx, rfl⟩
          exact .inl ⟨x, ⟨hx, hk⟩, rfl⟩
        · rintro (⟨x, ⟨hx, _⟩, rfl⟩ | ⟨x, rfl, hc⟩)
          · exact ⟨x, hx, rfl⟩
          · exact absurd hc hk2
    · rcases List.mem_append.1 hq with hq | hq
      · have hq2 := List.mem_filter.1 hq
        rw [atKey_put_other (fun hc => by simp at hq2; exact hq2.2 (nmLit_inj hc))]; exact h5 k q hq2.1 z
      · simp only [List.mem_singleton, Prod.mk.injEq] at hq
        obtain ⟨rfl, rfl⟩ := hq
        exact atKey_put_same h1.isMap (isKey _) _ _
/-- One file is kept under another name, some others are gone. -/
theorem fs_moved {W w w' : World} {g b : Nat} {d d' : Dk} {D D' : DataW Value} {l1 l2 : List HF} {f f' : HF} (q : HF → Bool) (h : FsX W w g d b D (l1 ++ f :: l2)) (hp : f'.2 = f.2) (hda : f'.1.data = f.1.data) (hsa : f'.1.safe = f.1.safe) (ht : Turn [g, b] w w')
    (hb : Blk w' g 109 (fscells b d')) (ho : OwnM w' b D') (hm : MapL D' (((l1 ++ l2).filter q ++ [f']).map fun h => (h.1.name, h.2.1))) (hd : d'.files = ((l1 ++ l2).filter q ++ [f']).map (·.1)) : FsTo W w w' g b (l1 ++ f :: l2) d' := by
  have hff : footH f' = footH f := by unfold footH; rw [hp]
  have hfm : f ∈ l1 ++ f :: l2 := by simp
  have hP := foot_perm g b l1 l2 f
  have hP' := foot_perm g b ((l1 ++ l2).filter q) [] f'
  rw [List.append_nil, hff] at hP'
  have hsl : (footH f ++ (g :: b :: ((l1 ++ l2).filter q).flatMap footH)).Sublist (footH f ++ (g :: b :: (l1 ++ l2).flatMap footH)) := (List.Sublist.refl _).append (((flat_sub _).cons_cons b).cons_cons g)
  have hsub : ∀ r ∈ foot g b ((l1 ++ l2).filter q ++ [f']), r ∈ foot g b (l1 ++ f :: l2) := fun r hr => hP.mem_iff.2 (hsl.subset (hP'.mem_iff.1 hr))
  have hF : ∀ r ∈ [g, b], r ∈ foot g b (l1 ++ f :: l2) := fun r hr => by simp at hr; rcases hr with rfl | rfl; exact foot_g; exact foot_b
  have keep : ∀ k ∈ l1 ++ f :: l2, FileAt w' W.heap.size k := fun k hk => (h.fil k hk).turn ht fun r hr hc => by
    have := foot_gh h.dis hk hr
    simp at hc
    rcases hc with hc | hc
    · exact this.1 hc
    · exact this.2 hc
  refine ⟨D', (l1 ++ l2).filter q ++ [f'], { ext := ht.ext h.ext (fun r hr => h.base r (hF r hr)), blk := hb, own := ho, map := hm, fil := fun k hk => ?_, dis := (hP'.nodup_iff).2 (((hP.nodup_iff).1 h.dis).sublist hsl), base := fun r hr => h.base r (hsub r hr), lt := fun r hr => Nat.lt_of_lt_of_le (h.lt r (hsub r hr)) ht.size, hsd := hd.symm, cnt := ?_ }, ht.mono (fun r hr => .inl (hF r hr)), fun r hr => .inl (hsub r hr)⟩
  · rcases List.mem_append.1 hk with hk | hk
    · have := (List.mem_filter.1 hk).1
      refine keep k ?_
      rcases List.mem_append.1 this with h2 | h2
      · exact List.mem_append_left _ h2
      · exact List.mem_append_right _ (List.mem_cons_of_mem _ h2)
    · simp only [List.mem_singleton] at hk
      subst hk
      have := keep f hfm
      unfold FileAt filcells at this ⊢
      rw [hp, hda, hsa]
      exact this
  · have h1 := List.length_filter_le q (l1 ++ l2)
    have h2 := h.cnt
    simp at h1 h2 ⊢
    omega
theorem toList_inj {a b : ByteArray} (h : a.toList = b.toList) : a = b := by
  rw [ByteArray.toList_eq, ByteArray.toList_eq] at h
  cases a; cases b; congr 1; exact Array.toList_inj.1 h
theorem not_name {W w : World} {g b : Nat} {d : Dk} {D : DataW Value} {l1 l2 : List HF} {f : HF} {nm : ByteArray} (h : FsX W w g d b D (l1 ++ f :: l2)) (hf : f.1.name = nm) : (l1 ++ f :: l2).filter (fun h => decide (h.1.name ≠ nm)) = l1 ++ l2 := by
  obtain ⟨h1, h2⟩ := names_apart h.map hf
  rw [List.filter_append, List.filter_cons_of_neg (by simpa using hf), List.filter_eq_self.2 (fun x hx => by simpa using h1 x hx), List.filter_eq_self.2 (fun x hx => by simpa using h2 x hx)]
theorem fs_renamed {W w w4 w5 : World} {g b p c0 fs : Nat} {d d1 : Dk} {u : Int} {D : DataW Value} {l1 l2 : List HF} {nm tn : ByteArray} {fd : List UInt8} {A : Option Addr} (h : FsX W w g d1 b D (l1 ++ (⟨nm, fd, fs⟩, p, A, c0) :: l2)) (hg4 : w.grownBy w4 (some b)) (hg5 : w4.grownBy w5 (some b))
    (ho : OwnM w5 b ((D.del (nmLit nm)).put (nmLit tn) (.held (ptrV p)))) (hfs : d1.files = d.files) (hu : d1.used = u) :
    FsTo W w w5 g b (l1 ++ (⟨nm, fd, fs⟩, p, A, c0) :: l2) { d1 with files := renF d nm tn, used := u } := by
  have hgF : getF d nm = some ⟨nm, fd, fs⟩ := by
    have := getF_eq h (f := (⟨nm, fd, fs⟩, p, A, c0)) rfl
    unfold getF at this ⊢
    rw [← hfs]; exact this
  have hgb := foot_gb h.dis
  have hg : w.grownBy w5 (some b) := ⟨hg5.os.trans hg4.os, hg5.tape.trans hg4.tape, hg5.output.trans hg4.output, Nat.le_trans hg4.size hg5.size, fun k hk hn => (hg5.block k (Nat.lt_of_lt_of_le hk hg4.size) hn).trans (hg4.block k hk hn)⟩
  have h12 := not_name h rfl
  dsimp only at h12
  refine fs_moved (f' := (⟨tn, fd, fs⟩, p, A, c0)) (fun h => decide (h.1.name ≠ tn)) h rfl rfl rfl (grown_turn hg (fun r hr => by injection hr with hr; subst hr; exact .inl (by simp))) ?_ ho ?_ ?_
  · rw [← hu]
    exact BlkG h.blk hg (by intro hc; injection hc with hc; exact hgb hc)
  · have := map_set (map_del h.map nm) tn p
    rw [List.filter_map, List.filter_map] at this
    rw [← h12, List.map_append]
    exact this
  · show renF d nm tn = _
    unfold renF
    rw [hgF, ← h12, ← hfs, ← h.hsd, List.filter_map, List.filter_filter]
    conv => rhs; rw [List.map_append]
    simp only [Option.map_some, Option.toList_some, List.map_cons, List.map_nil]
    congr 2
    exact List.filter_congr fun x _ => by simp [Bool.and_comm]
set_option maxRecDepth 100000 in
set_option maxHeartbeats 8000000 in
theorem rename_any (W w : World) (g b : Nat) (d : Dk) (D : DataW Value) (hs : List HF) (nm tn : ByteArray) (h : FsX W w g d b D hs) (hd : DkNum d) (hk : DkOk d) :
    Calls Tryz.prog 67 #[ptrV g, .string nm, .string tn] w fun e w' => e = .returned (.int .i64 ((renameD d nm tn).2 : Nat)) ∧ FsTo W w w' g b hs (renameD d nm tn).1 := by
  have HX := Lib.hid h
  have R := Lib.hid (right_any tn)
  unfold ptrV
  by_cases h0 : openE d nm = 0
  · obtain ⟨l1, l2, fd, fs, p, A, c0, rfl⟩ := fs_found h h0
    have KO := Lib.hid (open_hit W w g b d D l1 l2 nm fd fs p A c0 h h0)
    by_cases hr : rightB tn = false
    · have hc : renameD d nm tn = (d, 50) := by unfold renameD; rw [if_pos ⟨.inl h0, hr⟩]
      rw [hc]
      rw [hr] at R
      clear hc h
      go_enter Tryz.func67, Tryz.ntmps67
      go_wp2_with (first
        | (go_at_call 110; (with_reducible refine (KO.out).mono ?_); rintro e w1 ⟨rfl, hx1⟩)
        | (go_at_call 52; (with_reducible refine (R.out _).mono ?_); rintro e w2 ⟨rfl, hx2⟩))
      go_ret
      exact ⟨rfl, HX.out.ext_to (by repeat (first | with_reducible exact Below.refl _ _ | with_reducible assumption | with_reducible refine ExtD ?_ | with_reducible refine ExtDN ?_ | with_reducible refine ExtA ?_ | (with_reducible refine ExtR ?_ ?_; (first | omega | (dsimp only; omega) | (simp; done) | (simp; omega))) | (with_reducible refine ExtS ?_ ?_; (first | omega | (dsimp only; omega) | (simp; done) | (simp; omega))) | with_reducible refine Ext.tr ?_ (by with_reducible assumption)))⟩
    · have hr' : rightB tn = true := by simpa using hr
      rw [hr'] at R
      obtain ⟨up, hup⟩ : ∃ up, (stepD d).2 = up := ⟨_, rfl⟩
      have KS := Lib.hid fun (w1 : World) (hx : Ext w w1) => step_at W w1 g b d D _ up hd hup (HX.out.ext_ hx)
      cases up
      · have hc : renameD d nm tn = ((stepD d).1, 3) := by unfold renameD; rw [if_neg (by simp [hr']), if_neg (by omega), if_pos hup]
        rw [hc]
        clear hc h
        go_enter Tryz.func67, Tryz.ntmps67
        go_wp2_with (first
          | (go_at_call 110; (with_reducible refine (KO.out).mono ?_); rintro e w1 ⟨rfl, hx1⟩)
          | (go_at_call 52; (with_reducible refine (R.out _).mono ?_); rintro e w2 ⟨rfl, hx2⟩)
          | (go_at_call 111; (with_reducible refine (KS.out _ (by repeat (first | with_reducible exact Below.refl _ _ | with_reducible assumption | with_reducible refine ExtD ?_ | with_reducible refine ExtDN ?_ | with_reducible refine ExtA ?_ | (with_reducible refine ExtR ?_ ?_; (first | omega | (dsimp only; omega) | (simp; done) | (simp; omega))) | (with_reducible refine ExtS ?_ ?_; (first | omega | (dsimp only; omega) | (simp; done) | (simp; omega))) | with_reducible refine Ext.tr ?_ (by with_reducible assumption)))).mono ?_); rintro e w3 ⟨rfl, hX2, ht2⟩))
        go_ret
        exact ⟨rfl, hX2.to ((Ext.turn (by repeat (first | with_reducible exact Below.refl _ _ | with_reducible assumption | with_reducible refine ExtD ?_ | with_reducible refine ExtDN ?_ | with_reducible refine ExtA ?_ | (with_reducible refine ExtR ?_ ?_; (first | omega | (dsimp only; omega) | (simp; done) | (simp; omega))) | (with_reducible refine ExtS ?_ ?_; (first | omega | (dsimp only; omega) | (simp; done) | (simp; omega))) | with_reducible refine Ext.tr ?_ (by with_reducible assumption))) _).tr (turn_g ht2))⟩
      · by_cases hat : nm = tn
        · have hc : renameD d nm tn = ((stepD d).1, 0) := by unfold renameD; rw [if_neg (by simp [hr']), if_neg (by omega), if_neg (by simp [hup]), if_pos hat]
          rw [hc]
          subst hat
          clear hc h
          go_enter Tryz.func67, Tryz.ntmps67
          go_wp2_with (first
            | (go_at_call 110; (with_reducible refine (KO.out).mono ?_); rintro e w1 ⟨rfl, hx1⟩)
            | (go_at_call 52; (with_reducible refine (R.out _).mono ?_); rintro e w2 ⟨rfl, hx2⟩)
            | (go_at_call 111; (with_reducible refine (KS.out _ (by repeat (first | with_reducible exact Below.refl _ _ | with_reducible assumption | with_reducible refine ExtD ?_ | with_reducible refine ExtDN ?_ | with_reducible refine ExtA ?_ | (with_reducible refine ExtR ?_ ?_; (first | omega | (dsimp only; omega) | (simp; done) | (simp; omega))) | (with_reducible refine ExtS ?_ ?_; (first | omega | (dsimp only; omega) | (simp; done) | (simp; omega))) | with_reducible refine Ext.tr ?_ (by with_reducible assumption)))).mono ?_); rintro e w3 ⟨rfl, hX2, ht2⟩))
          go_ret
          exact ⟨rfl, hX2.to ((Ext.turn (by repeat (first | with_reducible exact Below.refl _ _ | with_reducible assumption | with_reducible refine ExtD ?_ | with_reducible refine ExtDN ?_ | with_reducible refine ExtA ?_ | (with_reducible refine ExtR ?_ ?_; (first | omega | (dsimp only; omega) | (simp; done) | (simp; omega))) | (with_reducible refine ExtS ?_ ?_; (first | omega | (dsimp only; omega) | (simp; done) | (simp; omega))) | with_reducible refine Ext.tr ?_ (by with_reducible assumption))) _).tr (turn_g ht2))⟩
        · have FA := Lib.hid fun (w1 : World) (d' : Dk) (hX : FsX W w1 g d' b D (l1 ++ (⟨nm, fd, fs⟩, p, A, c0) :: l2)) => (hX.fil (⟨nm, fd, fs⟩, p, A, c0) (by simp)).1
          have hsz1 : nm.size ≤ maxLen := by simp only [maxLen]; have := rightB_size (openE_right h0); omega
          have hsz2 : tn.size ≤ maxLen := by simp only [maxLen]; have := rightB_size hr'; omega
          have hsu := stepD_used d
          have hne := Lib.hid hat
          have hne2 : (nm.toList == tn.toList) = false := by
            rw [beq_eq_false_iff_ne]
            intro hc
            exact hat (toList_inj hc)
          have hcnt := h.cnt
          by_cases hin : ∀ x ∈ l1 ++ (⟨nm, fd, fs⟩, p, A, c0) :: l2, x.1.name ≠ tn
          · have hz : lenF d tn = 0 := by
              unfold lenF getF
              have : d.files.find? (fun f => decide (f.name = tn)) = none := by
                rw [List.find?_eq_none, ← h.hsd]
                intro x hx
                obtain ⟨y, hy, rfl⟩ := List.mem_map.1 hx
                simpa using hin y hy
              rw [this]; rfl
            have hc : renameD d nm tn = ({ (stepD d).1 with files := renF d nm tn, used := d.used }, 0) := by
              unfold renameD; rw [if_neg (by simp [hr']), if_neg (by omega), if_neg (by simp [hup]), if_neg hat, hz]; simp
            rw [hc]
            have Hl := Lib.hid fun (w3 : World) (hX3 : FsX W w3 g (stepD d).1 b D (l1 ++ (⟨nm, fd, fs⟩, p, A, c0) :: l2)) => look_miss (nm := tn) hX3.own hX3.map (fun x hx hc => by
              obtain ⟨y, hy, rfl⟩ := List.mem_map.1 hx
              exact hin y hy hc) hsz2
            have Hd := Lib.hid fun (w3 : World) (hX3 : FsX W w3 g (stepD d).1 b D (l1 ++ (⟨nm, fd, fs⟩, p, A, c0) :: l2)) => map_drop hX3.own (nm := nm) hsz1 0
            have Hs := Lib.hid fun (w3 w4 : World) (hX3 : FsX W w3 g (stepD d).1 b D (l1 ++ (⟨nm, fd, fs⟩, p, A, c0) :: l2)) (ho : OwnM w4 b (D.del (nmLit nm))) => map_store ho (map_del hX3.map nm) (Nat.le_trans (List.length_filter_le _ _) (by rw [List.length_map]; omega)) (nm := tn) p hsz2
            unfold ptrV at Hs
            clear hc h hin hz FA hcnt
            go_enter Tryz.func67, Tryz.ntmps67
            go_wp2_with (first
              | (go_at_call 110; (with_reducible refine (KO.out).mono ?_); rintro e w1 ⟨rfl, hx1⟩)
              | (go_at_call 52; (with_reducible refine (R.out _).mono ?_); rintro e w2 ⟨rfl, hx2⟩)
              | (go_at_call 111; go_loud ((with_reducible refine (KS.out _ (by repeat (first | with_reducible exact Below.refl _ _ | with_reducible assumption | with_reducible refine ExtD ?_ | with_reducible refine ExtDN ?_ | with_reducible refine ExtA ?_ | (with_reducible refine ExtR ?_ ?_; (first | omega | (dsimp only; omega) | (simp; done) | (simp; omega))) | (with_reducible refine ExtS ?_ ?_; (first | omega | (dsimp only; omega) | (simp; done) | (simp; omega))) | with_reducible refine Ext.tr ?_ (by with_reducible assumption)))).mono ?_); rintro e w3 ⟨rfl, hX3, ht3⟩; have q1 : w3.cell? ⟨g, 0, none⟩ = some (.map (some b)) := hX3.blk.cell 0; have hl := Hl.out w3 hX3; obtain ⟨w4, hrun4, hown4, hgr4⟩ := Hd.out w3 hX3; have q41 : w4.cell? ⟨g, 0, none⟩ = some (.map (some b)) := (BlkG hX3.blk hgr4 (by intro hc; injection hc with hc; exact foot_gb hX3.dis hc)).cell 0; obtain ⟨w5, hrun5, hown5, hgr5⟩ := Hs.out w3 w4 hX3 hown4)))
            go_ret
            refine ⟨rfl, FsTo.before ?_ ((Ext.turn (by repeat (first | with_reducible exact Below.refl _ _ | with_reducible assumption | with_reducible refine ExtD ?_ | with_reducible refine ExtDN ?_ | with_reducible refine ExtA ?_ | (with_reducible refine ExtR ?_ ?_; (first | omega | (dsimp only; omega) | (simp; done) | (simp; omega))) | (with_reducible refine ExtS ?_ ?_; (first | omega | (dsimp only; omega) | (simp; done) | (simp; omega))) | with_reducible refine Ext.tr ?_ (by with_reducible assumption))) _).tr (turn_g ht3))⟩
            exact fs_renamed hX3 hgr4 hgr5 hown5 (stepD_files d) hsu
          · obtain ⟨f2, hf2, hn2⟩ : ∃ x ∈ l1 ++ (⟨nm, fd, fs⟩, p, A, c0) :: l2, x.1.name = tn := by
              by_cases hc : ∃ x ∈ l1 ++ (⟨nm, fd, fs⟩, p, A, c0) :: l2, x.1.name = tn
              · exact hc
              · exact absurd (fun x hx hn => hc ⟨x, hx, hn⟩) hin
            obtain ⟨m1, m2, he⟩ := List.append_of_mem hf2
            obtain ⟨⟨fn2, fd2, fs2⟩, p2, A2, c2⟩ := f2
            have hn2 : fn2 = tn := hn2
            subst hn2
            have h2 := he ▸ h
            have hz := getF_len h2
            have hlim := file_lim h2 hk
            have hc : renameD d nm fn2 = ({ (stepD d).1 with files := renF d nm fn2, used := d.used - (fd2.length : Nat) }, 0) := by
              unfold renameD; rw [if_neg (by simp [hr']), if_neg (by omega), if_neg (by simp [hup]), if_neg hat, hz]
            rw [hc]
            have Hl := Lib.hid fun (w3 : World) (hX3 : FsX W w3 g (stepD d).1 b D (l1 ++ (⟨nm, fd, fs⟩, p, A, c0) :: l2)) => look_hit (nm := fn2) (p := p2) hX3.own hX3.map (List.mem_map.2 ⟨_, hf2, rfl⟩) hsz2
            have Hd := Lib.hid fun (w3 : World) (d' : Dk) (hX3 : FsX W w3 g d' b D (l1 ++ (⟨nm, fd, fs⟩, p, A, c0) :: l2)) => map_drop hX3.own (nm := nm) hsz1 0
            have Hs := Lib.hid fun (w3 w4 : World) (d' : Dk) (hX3 : FsX W w3 g d' b D (l1 ++ (⟨nm, fd, fs⟩, p, A, c0) :: l2)) (ho : OwnM w4 b (D.del (nmLit nm))) => map_store ho (map_del hX3.map nm) (Nat.le_trans (List.length_filter_le _ _) (by rw [List.length_map]; omega)) (nm := fn2) p hsz2
            have FB := Lib.hid fun (w1 : World) (d' : Dk) (hX : FsX W w1 g d' b D (l1 ++ (⟨nm, fd, fs⟩, p, A, c0) :: l2)) => (hX.fil _ hf2).1
            unfold ptrV at Hs Hl
            unfold filcells at FB
            dsimp only at FB
            obtain ⟨n2, hn2⟩ : ∃ n2, n2 = fd2.length := ⟨_, rfl⟩
            rw [← hn2] at hlim FB ⊢
            have hwr : IntKind.i64.wrap (d.used - (n2 : Int)) = d.used - (n2 : Int) := by rw [IntKind.wrap_i64]; omega
            clear hc h hin hz FA hcnt h2 he hf2 hn2 hk hat
            go_enter Tryz.func67, Tryz.ntmps67
            go_wp2_with (first
              | (go_at_call 110; (with_reducible refine (KO.out).mono ?_); rintro e w1 ⟨rfl, hx1⟩)
              | (go_at_call 52; (with_reducible refine (R.out _).mono ?_); rintro e w2 ⟨rfl, hx2⟩)
              | (go_at_call 111; go_loud ((with_reducible refine (KS.out _ (by repeat (first | with_reducible exact Below.refl _ _ | with_reducible assumption | with_reducible refine ExtD ?_ | with_reducible refine ExtDN ?_ | with_reducible refine ExtA ?_ | (with_reducible refine ExtR ?_ ?_; (first | omega | (dsimp only; omega) | (simp; done) | (simp; omega))) | (with_reducible refine ExtS ?_ ?_; (first | omega | (dsimp only; omega) | (simp; done) | (simp; omega))) | with_reducible refine Ext.tr ?_ (by with_reducible assumption)))).mono ?_); rintro e w3 ⟨rfl, hX3, ht3⟩; have q1 : w3.cell? ⟨g, 0, none⟩ = some (.map (some b)) := hX3.blk.cell 0; have hl := Hl.out w3 hX3; have q2 : w3.cell? ⟨g, 2, none⟩ = some (.int .i64 d.used) := (hX3.blk.cell 2).trans (by rw [← hsu]; rfl); have qf := hX3.blk.frozen 2; have qb : w3.cell? ⟨p2, 0, none⟩ = some (.slice A2 n2 c2) := (FB.out _ _ hX3).cell 0)))
            go_still_tail 12, (by kernel_rfl)
            change wpList _ _ _ _ _ w3.drew
            have hX4 := hX3.ext_ (ExtD (Ext.rfl' w3))
            have ht4 := ht3.tr ((ExtD (Ext.rfl' w3)).turn [g])
            clear hX3 ht3 q1 hl q2 qf qb
            generalize w3.drew = w4 at *
            have hB := hX4.blk
            have q0 : w4.cell? ⟨p2, 0, none⟩ = some (.slice A2 n2 c2) := (FB.out _ _ hX4).cell 0
            have q2 : w4.cell? ⟨g, 2, none⟩ = some (.int .i64 d.used) := (hB.cell 2).trans (by rw [← hsu]; rfl)
            have q1 : w4.cell? ⟨g, 0, none⟩ = some (.map (some b)) := hB.cell 0
            have qf := hB.frozen 2
            have hX5 : FsX W (w4.setCell ⟨g, 2, none⟩ (.int .i64 (d.used - (n2 : Nat)))) g { (stepD d).1 with used := d.used - (n2 : Nat) } b D _ := hX4.cells (Blk_eq (BlkS hX4.blk) (by simp [fscells])) (grown_setF (grown_rfl w4 g)) rfl
            obtain ⟨w6, hrun6, hown6, hgr6⟩ := Hd.out _ _ hX5
            have q41 : w6.cell? ⟨g, 0, none⟩ = some (.map (some b)) := (BlkG hX5.blk hgr6 (by intro hc; injection hc with hc; exact foot_gb hX5.dis hc)).cell 0
            obtain ⟨w7, hrun7, hown7, hgr7⟩ := Hs.out _ w6 _ hX5 hown6
            go_wp2_with fail
            go_ret
            refine ⟨rfl, FsTo.before (FsTo.before (w' := w4.setCell ⟨g, 2, none⟩ (.int .i64 (d.used - (n2 : Nat)))) ?_ (Turn.cell (by exact foot_g))) ((Ext.turn (by repeat (first | with_reducible exact Below.refl _ _ | with_reducible assumption | with_reducible refine ExtD ?_ | with_reducible refine ExtDN ?_ | with_reducible refine ExtA ?_ | (with_reducible refine ExtR ?_ ?_; (first | omega | (dsimp only; omega) | (simp; done) | (simp; omega))) | (with_reducible refine ExtS ?_ ?_; (first | omega | (dsimp only; omega) | (simp; done) | (simp; omega))) | with_reducible refine Ext.tr ?_ (by with_reducible assumption))) _).tr (turn_g ht4))⟩
            have hZ := fs_renamed (d := d) (u := d.used - (n2 : Nat)) (tn := fn2) hX5 hgr6 hgr7 hown7 (stepD_files d) rfl
            exact hZ
  · have KO := Lib.hid (open_bad W w g b d D hs nm _ h rfl)
    by_cases h51 : openE d nm = 51
    · rw [h51] at KO
      by_cases hr : rightB tn = false
      · have hc : renameD d nm tn = (d, 50) := by unfold renameD; rw [if_pos ⟨.inr h51, hr⟩]
        rw [hc]
        rw [hr] at R
        clear hc h h0
        go_enter Tryz.func67, Tryz.ntmps67
        go_wp2_with (first
          | (go_at_call 110; (with_reducible refine (KO.out).mono ?_); rintro e w1 ⟨v, rfl, hx1⟩)
          | (go_at_call 52; (with_reducible refine (R.out _).mono ?_); rintro e w2 ⟨rfl, hx2⟩))
        go_ret
        exact ⟨rfl, HX.out.ext_to (by repeat (first | with_reducible exact Below.refl _ _ | with_reducible assumption | with_reducible refine ExtD ?_ | with_reducible refine ExtDN ?_ | with_reducible refine ExtA ?_ | (with_reducible refine ExtR ?_ ?_; (first | omega | (dsimp only; omega) | (simp; done) | (simp; omega))) | (with_reducible refine ExtS ?_ ?_; (first | omega | (dsimp only; omega) | (simp; done) | (simp; omega))) | with_reducible refine Ext.tr ?_ (by with_reducible assumption)))⟩
      · have hr' : rightB tn = true := by simpa using hr
        have hc : renameD d nm tn = (d, 51) := by unfold renameD; rw [if_neg (by simp [hr']), if_pos h0, h51]
        rw [hc]
        rw [hr'] at R
        clear hc h h0
        go_enter Tryz.func67, Tryz.ntmps67
        go_wp2_with (first
          | (go_at_call 110; (with_reducible refine (KO.out).mono ?_); rintro e w1 ⟨v, rfl, hx1⟩)
          | (go_at_call 52; (with_reducible refine (R.out _).mono ?_); rintro e w2 ⟨rfl, hx2⟩))
        go_ret
        exact ⟨rfl, HX.out.ext_to (by repeat (first | with_reducible exact Below.refl _ _ | with_reducible assumption | with_reducible refine ExtD ?_ | with_reducible refine ExtDN ?_ | with_reducible refine ExtA ?_ | (with_reducible refine ExtR ?_ ?_; (first | omega | (dsimp only; omega) | (simp; done) | (simp; omega))) | (with_reducible refine ExtS ?_ ?_; (first | omega | (dsimp only; omega) | (simp; done) | (simp; omega))) | with_reducible refine Ext.tr ?_ (by with_reducible assumption)))⟩
    · have hc : renameD d nm tn = (d, openE d nm) := by unfold renameD; rw [if_neg (by rintro ⟨h1 | h1, _⟩ <;> omega), if_pos h0]
      rw [hc]
      have e1 : (((openE d nm : Nat) : Int) == 0) = false := by simp; omega
      have e2 : (((openE d nm : Nat) : Int) == 51) = false := by simp; omega
      have e3 : (((openE d nm : Nat) : Int) != 0) = true := by simp; omega
      clear hc h
      generalize openE d nm = E at *
      go_enter Tryz.func67, Tryz.ntmps67
      go_wp2_with (go_at_call 110; (with_reducible refine (KO.out).mono ?_); rintro e w1 ⟨v, rfl, hx1⟩)
      go_ret
      exact ⟨rfl, HX.out.ext_to (by repeat (first | with_reducible exact Below.refl _ _ | with_reducible assumption | with_reducible refine ExtD ?_ | with_reducible refine ExtDN ?_ | with_reducible refine ExtA ?_ | (with_reducible refine ExtR ?_ ?_; (first | omega | (dsimp only; omega) | (simp; done) | (simp; omega))) | (with_reducible refine ExtS ?_ ?_; (first | omega | (dsimp only; omega) | (simp; done) | (simp; omega))) | with_reducible refine Ext.tr ?_ (by with_reducible assumption)))⟩
end Go.Proofs.YtjajbbgebblalaaGreatDoor
