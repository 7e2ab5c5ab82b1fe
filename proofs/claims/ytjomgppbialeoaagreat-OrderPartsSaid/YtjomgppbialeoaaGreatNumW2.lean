/-
  The walk of num.Sum.
-/
import Derived.Test.YtjomgppbialeoaaGreatNumW1
namespace Go.Proofs.YtjomgppbialeoaaGreat
open Go.RowKit
set_option linter.unusedVariables false
set_option linter.unusedSimpArgs false
theorem at_ints {w : World} {A : Option Addr} {n k : Nat} {l : List Int} (h : Rd w A n (ints l)) (hk : k < n) :
    ∃ b o, A = some ⟨b, o, none⟩ ∧ w.cell? ⟨b, o + k, none⟩ = some (.int .i64 (l.getD k 0)) := by
  obtain ⟨b, o, e, hc⟩ := h.2 (by omega)
  have hl : k < l.length := by have := h.1; simp [ints] at this; omega
  exact ⟨b, o, e, hc k _ (by simp [ints, List.getD, List.getElem?_eq_getElem hl])⟩
/-- The relation of Sum's loop. -/
def SumR (w : World) (n : Nat) (l : List Int) (i : Value) (wr : World) : Prop :=
  ∃ k : Nat, k ≤ n ∧ i = .int .i64 k ∧ Ext w wr ∧ wr.cell? ⟨w.heap.size, 0, none⟩ = some (.int .u64 (wSum (l.take k)).1) ∧ wr.cell? ⟨w.heap.size, 1, none⟩ = some (.int .u64 (wSum (l.take k)).2) ∧
    wr.frozen? ⟨w.heap.size, 0, none⟩ = false ∧ wr.frozen? ⟨w.heap.size, 1, none⟩ = false
set_option maxHeartbeats 400000 in
theorem sum_any (A : Option Addr) (n c : Nat) (l : List Int) (w : World) (hr : Rd w A n (ints l)) (hl : I64 l) (hn : n ≤ maxLen) :
    Calls Tryz.prog 39 #[.slice A n c] w fun e w' => e = .returned (.tuple #[.int .i64 (sumOf l), .bool (sumFits l)]) ∧ Ext w w' := by
  unfold maxLen at hn
  go_enter Tryz.func39, Tryz.ntmps39
  go_wp2_with fail
  go_loopw [9] (fun i wr => SumR w n l i wr) (fun i _ => n - (intOf i).toNat)
  case atStart => exact ⟨0, by omega, rfl, (by repeat (first | with_reducible exact Below.refl _ _ | with_reducible assumption | with_reducible refine ExtD ?_ | with_reducible refine ExtDN ?_ | with_reducible refine ExtA ?_ | (with_reducible refine ExtR ?_ ?_; (first | omega | (dsimp only; omega) | (simp; done) | (simp; omega))) | (with_reducible refine ExtS ?_ ?_; (first | omega | (dsimp only; omega) | (simp; done) | (simp; omega))) | with_reducible refine Ext.tr ?_ (by with_reducible assumption))), by simp [wSum], by simp [wSum], by simp, by simp⟩
  case round =>
    obtain ⟨k, hk, rfl, hx, hc0, hc1, hf0, hf1⟩ := hrel
    by_cases hlt : k < n
    · obtain ⟨b, o, rfl, hcell⟩ := at_ints (hr.ext hx) hlt
      have hs := World.block_lt_of_cell? wr _ hc0
      obtain ⟨v, hv⟩ : ∃ v, v = l[k]?.getD 0 := ⟨_, rfl⟩
      have hvb : -9223372036854775808 ≤ v ∧ v ≤ 9223372036854775807 := by
        have hk' : k < l.length := by have := hr.1; simp [ints] at this; omega
        rw [hv, List.getElem?_eq_getElem hk']; exact hl _ (List.getElem_mem hk')
      have hstep : wSum (l.take (k + 1)) = wAdd (wSum (l.take k)) v := by
        rw [ntake_snoc l k (by have := hr.1; simp [ints] at this; omega), wSum_snoc, hv]; simp [List.getD]
      replace hcell : wr.cell? ⟨b, o + k, none⟩ = some (.int .i64 v) := by rw [hcell, hv]; simp [List.getD]
      clear hv
      have Hstep := Lib.hid hstep
      clear hstep
      obtain ⟨⟨b1, b2⟩, b3, b4⟩ := wSum_bd (l.take k)
      have hh := wHi_bd v
      have hlo := wLo_bd v
      generalize wSum (l.take k) = s at *
      obtain ⟨sa, sb⟩ := s
      simp only at b1 b2 b3 b4 hc0 hc1
      go_wp2_with fail
      go_region_with (first
        | (go_at_call 65; go_must (with_reducible refine (widen_any v _ hvb.1 hvb.2).mono ?_); rintro e w1 ⟨rfl, hx1⟩; have c0 := hx1.cell hc0; have c1 := hx1.cell hc1)
        | (go_at_call 64; go_must (with_reducible refine (plus_any sa sb (wHi v) (wLo v) _ b1 b2 b3 b4 hh.1 hh.2 hlo.1 hlo.2).mono ?_); rintro e w2 ⟨rfl, hx2⟩; have d0 := hx2.cell (hx1.cell hc0); have d1 := hx2.cell (hx1.cell hc1); have d2 := hx2.frz (hx1.cell hc0) (hx1.frz hc0 hf0); have d3 := hx2.frz (hx1.cell hc1) (hx1.frz hc1 hf1)))
      all_goals
        go_wp2_with fail
        go_roundw
        case rel => exact ⟨k + 1, by omega, by go_num, (by repeat (first | with_reducible exact Below.refl _ _ | with_reducible assumption | with_reducible refine ExtD ?_ | with_reducible refine ExtDN ?_ | with_reducible refine ExtA ?_ | (with_reducible refine ExtR ?_ ?_; (first | omega | (dsimp only; omega) | (simp; done) | (simp; omega))) | (with_reducible refine ExtS ?_ ?_; (first | omega | (dsimp only; omega) | (simp; done) | (simp; omega))) | with_reducible refine Ext.tr ?_ (by with_reducible assumption))), by rw [Hstep.out]; simp [go_sem, wAdd, addHi', d0, d1], by rw [Hstep.out]; simp [go_sem, wAdd, d0, d1], by simp [d2], by simp [d3]⟩
        case measure => simp [intOf]; omega
    · have hkn : k = n := by omega
      subst hkn
      have htk : l.take k = l := List.take_of_length_le (by have := hr.1; simp [ints] at this; omega)
      rw [htk] at hc0 hc1
      obtain ⟨⟨b1, b2⟩, b3, b4⟩ := wSum_bd l
      go_wp2_with (go_at_call 66; go_must (with_reducible refine (narrow_any _ _ _ b1 b2 b3 b4).mono ?_); rintro e w1 ⟨rfl, hx1⟩)
      go_ret2
      exact ⟨by unfold sumOf sumFits; rfl, Ext.tr hx hx1⟩
end Go.Proofs.YtjomgppbialeoaaGreat
