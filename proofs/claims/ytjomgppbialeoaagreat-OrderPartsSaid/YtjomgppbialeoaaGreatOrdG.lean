/-
  The walks of slices.Insert at lines with no room, and of slices.Delete at lines.
-/
import Derived.Test.YtjomgppbialeoaaGreatOrdI
import Derived.Laws.NewBlocks
import Derived.WalkKit
import Derived.Lib.Walk
namespace Go.Proofs.YtjomgppbialeoaaGreat
open Go.RowKit
set_option linter.unusedVariables false
set_option linter.unusedSimpArgs false
theorem GrC {a : World} {row : Option Nat} {g : Nat} (hp : a.heap.size ≤ g) : ∀ {vs : List Value} {o : Nat} {w : World}, a.grownBy w row → a.grownBy (w.setCells g o vs) row
  | [], _, _, h => h
  | v :: r, o, w, h => GrC hp (vs := r) (o := o + 1) (GrN (p := ⟨g, o, none⟩) (u := v) hp h)
theorem BlkO {g b : Nat} {t : TypeId} {cs : Array Value} {vs : List Value} {o : Nat} {w : World} (hne : g ≠ b) (h : Blk w g t cs) : Blk (w.setCells b o vs) g t cs := blk_setOut hne vs o w h
theorem ln0_size : (Value.agg (lncells ⟨0, 0, 0, 0⟩)).cells.size = 4 := rfl
set_option maxRecDepth 100000 in
set_option maxHeartbeats 4000000 in
theorem insert_grow (ls : List Ln) (l : Ln) (k : Nat) (A : Option Addr) (base : Nat) (w : World) (hown : OwnLs w base A ls ls.length) (hlen : ls.length ≤ 16) (hk : k < ls.length) (vb : Nat) (hv : Blk w vb 44 (lncells l)) (hbase : base ≤ w.heap.size) :
    Calls Tryz.prog 72 #[.slice A ls.length ls.length, .int .i64 (k : Nat), .slice (some ⟨vb, 0, none⟩) 1 1] w (InsPost w base A ls.length ls.length (ls.take k ++ l :: ls.drop k)) := by
  obtain ⟨i0, hi0, hz0, hzs, hzb⟩ := info_parts el_ln.1
  obtain ⟨g, cur, rfl, hg, hb, hs, hcur⟩ := own_form hown (by omega)
  have hX := lnCells_len ls
  have hgw := hb.lt
  have hvw := hv.lt
  have hdl : ((lnCells ls).drop (k * 4)).length = (ls.length - k) * 4 := by rw [List.length_drop, hX]; omega
  have hsrc : ∀ j v, (lnCells ls)[j]? = some v → cur[j]? = some v := fun j v hj => by rw [hcur _ (by have := (List.getElem?_eq_some_iff.1 hj).1; omega)]; exact hj
  have hold : (Builtin.firstCells i0.size k (.slice (some ⟨g, 0, none⟩) k ls.length)).run Tryz.prog w.drew = .ok ((lnCells ls).take (k * 4)).toArray w.drew := by
    rw [hzs]
    exact run_firstCells_some w.drew 4 k ⟨g, 0, none⟩ k ls.length ((lnCells ls).take (k * 4)) (by rw [List.length_take]; omega) (fun j v hj => by
      rw [Addr.add_lit]
      rw [List.getElem?_take] at hj
      split at hj
      · rw [Nat.zero_add]; exact (hb.cell j).trans (hsrc j v hj)
      · cases hj)
  have hrz : ∀ ty, (Builtin.append_ #[23, 3] ty #[.slice (some ⟨g, 0, none⟩) k ls.length, .int .i64 ((ls.length + 1 - k : Nat) : Int)]).run Tryz.prog w =
      .ok (.slice (some ⟨w.heap.size, 0, none⟩) (ls.length + 1) (grownCap w (ls.length + 1) ls.length 44)) (w.drew.alloc (.cells (((lnCells ls).take (k * 4)).toArray ++ Builtin.zeroCells (Value.agg (lncells ⟨0, 0, 0, 0⟩)).cells (ls.length + 1 - k) ++ Builtin.zeroCells (Value.agg (lncells ⟨0, 0, 0, 0⟩)).cells (grownCap w (ls.length + 1) ls.length 44 - (ls.length + 1))) 44)) := fun ty => by
    have h := Lib.run_append_grow_zeros w 23 3 ty 44 i0 _ .i64 .i64 Tryz.underlying23 Tryz.underlying3 hi0 hz0 (some ⟨g, 0, none⟩) k ls.length ((lnCells ls).take (k * 4)) hold (ls.length + 1 - k) (by omega) (by omega) (by omega) (by omega) (by rw [hzb]; omega) (by rw [hzb, show k + (ls.length + 1 - k) = ls.length + 1 by omega]; exact growslice_fits (by omega) (by omega))
    rw [show k + (ls.length + 1 - k) = ls.length + 1 by omega] at h
    exact h
  obtain ⟨G, hG⟩ : ∃ G, G = grownCap w (ls.length + 1) ls.length 44 := ⟨_, rfl⟩
  have hGn : ls.length + 1 ≤ G := by rw [hG]; exact grownCap_ge w _ _ _
  have hGm : G ≤ maxLen := by rw [hG]; exact grownCap_le_maxLen w _ _ _ (by simp only [maxLen]; omega)
  rw [← hG] at hrz
  clear hG
  obtain ⟨ROW, hROW⟩ : ∃ ROW : Array Value, ROW = ((lnCells ls).take (k * 4)).toArray ++ Builtin.zeroCells (Value.agg (lncells ⟨0, 0, 0, 0⟩)).cells (ls.length + 1 - k) ++ Builtin.zeroCells (Value.agg (lncells ⟨0, 0, 0, 0⟩)).cells (G - (ls.length + 1)) := ⟨_, rfl⟩
  rw [← hROW] at hrz
  have htl : ((lnCells ls).take (k * 4)).length = k * 4 := by rw [List.length_take]; omega
  have hRs : ROW.size = G * 4 := by
    rw [hROW, Array.size_append, Array.size_append, size_zeroCells, size_zeroCells, ln0_size, List.size_toArray, htl]
    omega
  have hR0 : ∀ j, j < k * 4 → ROW[j]? = (lnCells ls)[j]? := fun j hj => by
    rw [hROW, Array.append_assoc, Array.getElem?_append, if_pos (by rw [List.size_toArray, htl]; exact hj), List.getElem?_toArray, List.getElem?_take, if_pos hj]
  clear hROW
  obtain ⟨W1, hW1⟩ : ∃ W1, W1 = w.drew.alloc (.cells ROW 44) := ⟨_, rfl⟩
  rw [← hW1] at hrz
  have Hb1 : Blk W1 w.heap.size 44 ROW := by rw [hW1]; exact BlkN rfl
  have Hv1 : Blk W1 vb 44 (lncells l) := by rw [hW1]; exact BlkA (BlkD hv)
  have Hg1 : Blk W1 g 44 cur := by rw [hW1]; exact BlkA (BlkD hb)
  have Hx1 : w.grownBy W1 (some g) := by rw [hW1]; exact GrA (GrD (World.grownBy.refl w (some g)))
  clear hW1
  have hgN : g ≠ w.heap.size := by omega
  obtain ⟨N, hN⟩ : ∃ N, N = w.heap.size := ⟨_, rfl⟩
  have hcp1 : ∀ W, Blk W N 44 ROW → Blk W vb 44 (lncells l) → ∀ ty dc, (Builtin.copy_ #[23, 23] ty #[.slice (some ⟨N, k * 4, none⟩) (ls.length + 1 - k) dc, .slice (some ⟨vb, 0, none⟩) 1 1]).run Tryz.prog W = .ok (goInt 1) (W.setCells N (k * 4) (lncells l).toList) := fun W h1 h2 ty dc =>
    run_copyN 23 ty 44 N (k * 4) (ls.length + 1 - k) dc ⟨vb, 0, none⟩ 1 1 (lncells l).toList 4 1 Tryz.underlying23 sz_ln (by simp only [Nat.min_def]; split <;> omega) rfl
      (fun j v hj => by
        rw [Addr.add_lit, Nat.zero_add, h2.cell]
        simpa using hj)
      ROW 44 h1 (by rw [hRs]; show k * 4 + 4 ≤ _; omega) (ln_one l)
  obtain ⟨R1, hR1⟩ : ∃ R1, R1 = ov ROW (k * 4) (lncells l).toList := ⟨_, rfl⟩
  have ho1 : over ROW (k * 4) (lncells l).toList R1 := by rw [hR1]; exact over_ov _ _ _ (by rw [hRs]; show k * 4 + 4 ≤ _; omega)
  have hR1s : R1.size = G * 4 := by rw [ho1.1, hRs]
  have hcp2 : ∀ W, Blk W N 44 R1 → Blk W g 44 cur → ∀ ty dc sc, (Builtin.copy_ #[23, 23] ty #[.slice (some ⟨N, (k + 1) * 4, none⟩) (ls.length - k) dc, .slice (some ⟨g, k * 4, none⟩) (ls.length - k) sc]).run Tryz.prog W = .ok (goInt ((ls.length - k : Nat))) (W.setCells N ((k + 1) * 4) ((lnCells ls).drop (k * 4))) := fun W h1 h2 ty dc sc =>
    run_copyN 23 ty 44 N ((k + 1) * 4) (ls.length - k) dc ⟨g, k * 4, none⟩ (ls.length - k) sc ((lnCells ls).drop (k * 4)) 4 (ls.length - k) Tryz.underlying23 sz_ln (by simp only [Nat.min_def]; split <;> omega) hdl
      (fun j v hj => by
        rw [Addr.add_lit]
        show W.cell? _ = _
        rw [h2.cell]
        rw [List.getElem?_drop] at hj
        exact hsrc _ v hj)
      R1 44 h1 (by rw [hdl, hR1s]; omega) (fun v hv => lnCells_one ls v (List.mem_of_mem_drop hv))
  have ho2 : over R1 ((k + 1) * 4) ((lnCells ls).drop (k * 4)) (ov R1 ((k + 1) * 4) ((lnCells ls).drop (k * 4))) := over_ov _ _ _ (by rw [hdl, hR1s]; omega)
  have HL : Hid ((ls.take k ++ l :: ls.drop k).length = ls.length + 1) := Lib.hid (by simp; omega)
  have HE : Hid (∀ W', Blk W' N 44 (ov R1 ((k + 1) * 4) ((lnCells ls).drop (k * 4))) → OwnLs W' base (some ⟨N, 0, none⟩) (ls.take k ++ l :: ls.drop k) G) := Lib.hid fun W' h => own_of_cells (by omega) h (by rw [HL.out]; exact hGn) hGm (by rw [ho2.1, hR1s]) (over_rev hk hR0 ho1 ho2)
  have HNw : Hid (w.heap.size ≤ N) := Lib.hid (by omega)
  have HR1 := Lib.hid hR1
  rw [← hN] at Hb1 hgN hrz hvw
  have hvN : vb ≠ N := by omega
  have Hb2 : Blk (W1.setCells N (k * 4) (lncells l).toList) N 44 R1 := by rw [hR1]; exact BlkC Hb1
  have Hg2 : Blk (W1.setCells N (k * 4) (lncells l).toList) g 44 cur := BlkO hgN Hg1
  have hw1 : IntKind.i64.wrap ((k : Int) + 1) = (k : Int) + 1 := by rw [IntKind.wrap_i64]; omega
  have hz2 : ¬ ((k : Int) = (ls.length : Int)) := by omega
  have hb3 : (k : Int) ≤ (ls.length : Int) := by omega
  have hb4 : ¬ (G = k) := by omega
  have hb5 : ¬ (G = k + 1) := by omega
  have hb5' : ¬ (ls.length = k) := by omega
  have hb6 : (0 : Int) ≤ (k : Int) + 1 := by omega
  have hb7 : ((k : Int) + 1).toNat = k + 1 := by omega
  have hk2 : k ≤ ls.length := by omega
  have hb8 : (k : Int) ≤ (ls.length : Int) + 1 := by omega
  have mixed : Tryz.prog.follows Departure.mixedOrders = true := by kernel_rfl
  have hkk : (ls.length : Int) + 1 - (k : Int) = ((ls.length + 1 - k : Nat) : Int) := by omega
  rw [← hkk] at hrz
  have hG63 : G ≤ 9223372036854775807 := by simp only [maxLen] at hGm; omega
  have Hcp2 := Lib.hid (hcp2 _ (BlkD Hb2) (BlkD Hg2))
  clear hcp2
  clear hown hb hcur hX hdl ho1 ho2 hv hs hsrc hold hGm htl hRs hR0 hR1s hN hR1 hgw hvw hi0 hz0 hzs hzb i0 hkk
  generalize (lnCells ls).drop (k * 4) = DR at *
  generalize ls.length = n at *
  go_enter Tryz.func72, Tryz.ntmps72
  go_wp2_with (first
    | (at_builtin; refine Lib.wpList_append_run _ rfl _ _ _ _ rfl _ _ rfl rfl _ _ (hrz _) ?_)
    | (at_builtin; refine wpList_copy_runI _ rfl _ _ 23 23 rfl _ _ rfl rfl (hcp1 _ (by repeat (first | assumption | refine BlkD ?_)) (by repeat (first | assumption | refine BlkD ?_)) _ _) ?_))
  go_region_law_o (refine step_copy_runI rfl (.tmp 50) (.tmp 53) 23 23 rfl (.slice (some ⟨N, (k + 1) * 4, none⟩) (n - k) (G - (k + 1))) (.slice (some ⟨g, k * 4, none⟩) (n - k) (n - k)) (by simp [Act.eval, Act.put]) (by simp [Act.eval, Act.put]) (Hcp2.out 3 (G - (k + 1)) (n - k)) ?_)
  go_wp2_with fail
  go_ret
  refine ⟨some ⟨N, 0, none⟩, G, by rw [HL.out]; rfl, ?_, HE.out _ (BlkC (BlkD Hb2))⟩
  exact GrC HNw.out (GrD (GrC HNw.out Hx1))
end Go.Proofs.YtjomgppbialeoaaGreat
