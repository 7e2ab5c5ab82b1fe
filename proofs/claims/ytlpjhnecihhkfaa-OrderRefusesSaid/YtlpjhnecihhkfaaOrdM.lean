/-
  The walk of slices.Delete at lines: one line.
-/
import Derived.Test.YtlpjhnecihhkfaaOrdK
import Derived.WalkKit
import Derived.Lib.Walk
import Derived.Lib.SlicesDelete
namespace Go.Proofs.Ytlpjhnecihhkfaa
open Go.RowKit
set_option linter.unusedVariables false
set_option linter.unusedSimpArgs false
set_option maxRecDepth 100000 in
set_option maxHeartbeats 4000000 in
theorem delete_any (ls : List Ln) (k : Nat) (A : Option Addr) (c base : Nat) (w : World) (hown : OwnLs w base A ls c) (hlen : ls.length ≤ 16) (hk : k < ls.length) :
    Calls Try.prog 81 #[.slice A ls.length c, .int .i64 (k : Nat), .int .i64 ((k : Int) + 1)] w (InsPost w base A ls.length c (ls.take k ++ ls.drop (k + 1))) := by
  have hnc := own_cap hown
  obtain ⟨i0, hi0, hz0, hzs, hzb⟩ := info_parts el_ln.1
  obtain ⟨g, cur, rfl, hg, hb, hs, hcur⟩ := own_form hown (by omega)
  have hX := lnCells_len ls
  obtain ⟨DR, hDR⟩ : ∃ DR, DR = (lnCells ls).drop ((k + 1) * 4) := ⟨_, rfl⟩
  have hdl : DR.length = (ls.length - (k + 1)) * 4 := by rw [hDR, List.length_drop, hX]; omega
  have hget : ∀ j v, DR[j]? = some v → cur[(k + 1) * 4 + j]? = some v := fun j v hj => by
    rw [hDR, List.getElem?_drop] at hj
    rw [hcur _ (by have := (List.getElem?_eq_some_iff.1 hj).1; omega)]; exact hj
  obtain ⟨B, hB, hsrc⟩ : ∃ B : Addr, (if c = k + 1 then some (⟨g, 0, none⟩ : Addr) else some ⟨g, (k + 1) * 4, none⟩) = some B ∧ Hid (∀ j u, DR[j]? = some u → w.drew.cell? (B.add j) = some u) := by
    by_cases h : c = k + 1
    · refine ⟨⟨g, 0, none⟩, by simp [h], fun j u hu => ?_⟩
      have h0 : DR.length = 0 := by rw [hdl]; omega
      rw [List.length_eq_zero_iff.1 h0] at hu
      simp at hu
    · refine ⟨⟨g, (k + 1) * 4, none⟩, by simp [h], fun j u hu => ?_⟩
      rw [Addr.add_lit]
      exact (hb.cell _).trans (hget j u hu)
  have h1 : ∀ v ∈ DR, v.oneCell' = true := fun v hv => lnCells_one ls v (List.mem_of_mem_drop (hDR ▸ hv))
  have s1 : Hid (DR.length = (ls.length - (k + 1)) * 4) := hdl
  have s2 : Hid (∀ v ∈ DR, v.oneCell' = true) := h1
  have s3 : Hid (∀ j, j < DR.length → (w.drew.cell? ⟨g, 0 + k * 4 + j, none⟩).isSome = true ∧ w.drew.frozen? ⟨g, 0 + k * 4 + j, none⟩ = false) := by
    intro j hj
    rw [hdl] at hj
    refine ⟨?_, hb.frozen _⟩
    show (w.cell? _).isSome = true
    rw [hb.cell, Array.getElem?_eq_getElem (by omega)]; rfl
  obtain ⟨W1, hW1⟩ : ∃ W1, W1 = w.drew.setCells g (0 + k * 4) DR := ⟨_, rfl⟩
  obtain ⟨R1, hR1⟩ : ∃ R1, R1 = ov cur (0 + k * 4) DR := ⟨_, rfl⟩
  have hb1 : Blk W1 g 48 R1 := by rw [hW1, hR1]; exact BlkC (BlkD hb)
  have ho1 : over cur (0 + k * 4) DR R1 := by rw [hR1]; exact over_ov _ _ _ (by rw [hdl, hs]; omega)
  have hs1 : R1.size = c * 4 := by rw [ho1.1, hs]
  obtain ⟨Z, hZ⟩ : ∃ Z, (Builtin.zeroCells (lncells ⟨0, 0, 0, 0⟩) 1).toList = Z := ⟨_, rfl⟩
  have hZ4 : Z.length = 4 := by rw [← hZ, Array.length_toList, size_zeroCells]; rfl
  have hZ1 : ∀ v ∈ Z, v.oneCell' = true := by rw [← hZ]; intro v hv; simp [Builtin.zeroCells, lncells] at hv; obtain ⟨i, hi, rfl⟩ := hv; (match i, hi with | 0, _ => rfl | 1, _ => rfl | 2, _ => rfl | 3, _ => rfl)
  have hcl : ∀ ty cc, (Builtin.clear_ #[23] ty #[.slice (some ⟨g, (k + (ls.length - (k + 1))) * 4, none⟩) (ls.length - (k + (ls.length - (k + 1)))) cc]).run Try.prog W1 = .ok (.tuple #[]) (W1.setCells g ((k + (ls.length - (k + 1))) * 4) Z) := fun ty cc => by
    rw [show ls.length - (k + (ls.length - (k + 1))) = 1 by omega]
    exact run_clearN 23 ty 48 (.agg (lncells ⟨0, 0, 0, 0⟩)) (lncells ⟨0, 0, 0, 0⟩) 4 Try.underlying23 (by kernel_rfl) rfl g ((k + (ls.length - (k + 1))) * 4) 1 cc (by omega) Z hZ R1 48 hb1 (by rw [hZ4, hs1]; omega) hZ1
  have Hout : Hid (InsPost w base (some ⟨g, 0, none⟩) ls.length c (ls.take k ++ ls.drop (k + 1)) (.returned (.slice (some ⟨g, 0, none⟩) (k + (ls.length - (k + 1))) c)) (W1.setCells g ((k + (ls.length - (k + 1))) * 4) Z)) := by
    have hl : (ls.take k ++ ls.drop (k + 1)).length = k + (ls.length - (k + 1)) := by simp; omega
    have ho2 : over R1 ((k + (ls.length - (k + 1))) * 4) Z (ov R1 ((k + (ls.length - (k + 1))) * 4) Z) := over_ov _ _ _ (by rw [hZ4, hs1]; omega)
    refine ⟨some ⟨g, 0, none⟩, c, by rw [hl], ?_, own_of_cells hg (BlkC hb1) (by rw [hl]; omega) (by simp only [maxLen]; omega) (by rw [ho2.1, hs1]) ?_⟩
    · rw [hW1]
      exact grown_setCells _ _ _ (grown_setCells _ _ _ (GrD (World.grownBy.refl w (some g))))
    · rw [hl, lnCells_app, lnCells_take, lnCells_drop, ← hDR]
      apply List.ext_getElem?
      intro j
      have hta : ((lnCells ls).take (k * 4)).length = k * 4 := by rw [List.length_take]; omega
      rw [List.getElem?_take, Array.getElem?_toList]
      by_cases hj : j < (k + (ls.length - (k + 1))) * 4
      · rw [if_pos hj, ho2.2, if_neg (by omega), ho1.2]
        by_cases hjk : j < k * 4
        · rw [if_neg (by omega), List.getElem?_append_left (by omega), List.getElem?_take, if_pos hjk, hcur j (by omega)]
        · rw [if_pos (by rw [hdl]; omega), List.getElem?_append_right (by omega), hta, Nat.zero_add]
      · rw [if_neg hj, List.getElem?_eq_none (by rw [List.length_append, hta, hdl]; omega)]
  have hW : Hid (W1 = w.drew.setCells g (0 + k * 4) DR) := hW1
  have hw1 : ¬ ((k : Int) = (k : Int) + 1) := by omega
  have hb3 : (k : Int) ≤ (ls.length : Int) := by omega
  have hb6 : (0 : Int) ≤ (k : Int) + 1 := by omega
  have hb7 : ((k : Int) + 1).toNat = k + 1 := by omega
  have hb8 : (k : Int) + 1 ≤ (ls.length : Int) := by omega
  have hb9 : k + (ls.length - (k + 1)) ≤ ls.length := by omega
  have hb10 : ¬ (c = k + (ls.length - (k + 1))) := by omega
  have hkc : k ≤ c := by omega
  have mixed : Try.prog.follows Departure.mixedOrders = true := by kernel_rfl
  have hkn : k ≤ ls.length := by omega
  have hroom : k + (ls.length - (k + 1)) ≤ c := by omega
  clear hown hb hcur hX hdl hb1 ho1 hs1 hs hget h1 hDR hR1 hW1 hZ hZ4
  generalize ls.length = n at *
  go_enter Try.func81, Try.ntmps81
  go_wp2_with fail
  go_region_law_o (refine step_append_room rfl (.tmp 22) (.tmp 25) 23 rfl 48 i0 4 Try.underlying23 hi0 hzs g 0 k c (by simp [Act.eval, Act.put]) B (n - (k + 1)) (c - (k + 1)) DR (by simp [Act.eval, Act.put]) s1.out hsrc.out s2.out (by omega) s3.out ?_; rw [← hW.out])
  go_wp2_with (at_builtin; refine wpL_builtin rfl _ 23 rfl _ rfl (hcl _ _) ?_)
  go_ret
  exact Hout.out
end Go.Proofs.Ytlpjhnecihhkfaa
