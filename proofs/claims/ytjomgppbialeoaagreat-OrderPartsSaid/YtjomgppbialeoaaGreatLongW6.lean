/-
  The walk of the reference's Sum.
-/
import Derived.Test.YtjomgppbialeoaaGreatLongW1
import Derived.Test.YtjomgppbialeoaaGreatNumP
import Derived.Test.YtjomgppbialeoaaGreatNumW2
namespace Go.Proofs.YtjomgppbialeoaaGreat
open Go.RowKit
set_option linter.unusedVariables false
set_option linter.unusedSimpArgs false
def SumLR (w : World) (n : Nat) (l : List Int) (i : Value) (wr : World) : Prop :=
  ∃ k : Nat, k ≤ n ∧ i = .int .i64 k ∧ Ext w wr ∧ Blk wr w.heap.size 64 (arrA false (fun _ => 0)) ∧ Blk wr (w.heap.size + 1) 64 (arrA (sumL (l.take k)).1 (dg (sumL (l.take k)).2))
set_option maxHeartbeats 2000000 in
theorem sum_long (A : Option Addr) (n c : Nat) (l : List Int) (w : World) (hr : Rd w A n (ints l)) (hl : I64 l) (hn : n ≤ maxLen) :
    Calls Tryz.prog 30 #[.slice A n c] w fun e w' => e = .returned (longV (sumL l).1 (sumL l).2) ∧ Ext w w' := by
  unfold maxLen at hn
  have z2 := arr_zero false
  have hz0 := arr_ext (b := false) (D := fun _ => 0) (E := dg 0) (fun j _ => by simp [dg])
  have Hz0 := Lib.hid hz0
  clear hz0
  go_enter Tryz.func30, Tryz.ntmps30
  go_wp2_with (with_reducible refine wpL_store_new rfl 64 (.tmp 3) (.tmp 5) rfl (w.heap.size + 1) 64 (arrA false fun _ => 0) (arrA false fun _ => 0) rfl rfl (by simp) (by rw [arr_size]) (arr_one _ _) 17 long_wide (arr_size _ _) ?_)
  go_loopw [4] (fun i wr => SumLR w n l i wr) (fun i _ => n - (intOf i).toNat)
  case atStart => exact ⟨0, by omega, rfl, (by repeat (first | with_reducible exact Below.refl _ _ | with_reducible assumption | with_reducible refine ExtD ?_ | with_reducible refine ExtDN ?_ | with_reducible refine ExtA ?_ | (with_reducible refine ExtR ?_ ?_; (first | omega | (dsimp only; omega) | (simp; done) | (simp; omega))) | (with_reducible refine ExtS ?_ ?_; (first | omega | (dsimp only; omega) | (simp; done) | (simp; omega))) | with_reducible refine Ext.tr ?_ (by with_reducible assumption))), (by repeat (first | with_reducible assumption | (with_reducible refine BlkN ?_; (first | rfl | (first | omega | (dsimp only; omega) | (simp; done) | (simp; omega)))) | with_reducible refine BlkD ?_ | with_reducible refine BlkDN ?_ | with_reducible refine BlkA ?_ | with_reducible refine BlkE ?_ (by with_reducible assumption) | with_reducible refine BlkS ?_ | (with_reducible refine BlkF ?_ ?_; (first | omega | (dsimp only; omega) | (simp; done) | (simp; omega))) | (with_reducible refine BlkR ?_ ?_; (first | omega | (dsimp only; omega) | (simp; done) | (simp; omega))))), by simp only [List.take_zero, sumL, List.foldl_nil]; rw [← Hz0.out]; exact (by repeat (first | with_reducible assumption | (with_reducible refine BlkN ?_; (first | rfl | (first | omega | (dsimp only; omega) | (simp; done) | (simp; omega)))) | with_reducible refine BlkD ?_ | with_reducible refine BlkDN ?_ | with_reducible refine BlkA ?_ | with_reducible refine BlkE ?_ (by with_reducible assumption) | with_reducible refine BlkS ?_ | (with_reducible refine BlkF ?_ ?_; (first | omega | (dsimp only; omega) | (simp; done) | (simp; omega))) | (with_reducible refine BlkR ?_ ?_; (first | omega | (dsimp only; omega) | (simp; done) | (simp; omega)))))⟩
  case round =>
    obtain ⟨k, hk, rfl, hx, b0, b1⟩ := hrel
    have hlen : l.length = n := by have := hr.1; simpa [ints] using this
    by_cases hlt : k < n
    · obtain ⟨b, o, rfl, hcell⟩ := at_ints (hr.ext hx) hlt
      obtain ⟨v, hv⟩ : ∃ v, v = l.getD k 0 := ⟨_, rfl⟩
      have hkl : k < l.length := by omega
      have hvb : -9223372036854775808 ≤ v ∧ v ≤ 9223372036854775807 := by
        rw [hv, List.getD, List.getElem?_eq_getElem hkl]; exact hl _ (List.getElem_mem hkl)
      rw [← hv] at hcell
      have Hstep := Lib.hid (show sumL (l.take (k + 1)) = addL (sumL (l.take k)) v by rw [ntake_snoc l k hkl, sumL_snoc, hv])
      have hsl := sumL_le (l.take k) (hl.take_ k)
      have hs1 : (sumL (l.take k)).2 < 65536 ^ 16 := by have : (l.take k).length ≤ k := List.length_take_le _ _; omega
      have hs2 : absN v < 65536 ^ 16 := by unfold absN; omega
      have Hs1 := Lib.hid hs1
      have Hs2 := Lib.hid hs2
      clear hs1 hs2 hsl hv hlen
      obtain ⟨c0, c1, c2, c3, c4, c5, c6, c7, c8, c9, c10, c11, c12, c13, c14, c15, c16⟩ := arr_cells b1
      have zl := arr_lit (sumL (l.take k)).1 (dg (sumL (l.take k)).2)
      have hsz : w.heap.size + 1 < wr.heap.size := b1.lt
      go_wp2_with fail
      go_region_with (first
        | (go_at_call 33; go_must (with_reducible refine (of_any v _ hvb.1 hvb.2).mono ?_); rintro e w1 ⟨rfl, hx1⟩; have B1 := hx1.blk b1; obtain ⟨e0, e1, e2, e3, e4, e5, e6, e7, e8, e9, e10, e11, e12, e13, e14, e15, e16⟩ := arr_cells B1)
        | (go_at_call 36; go_must (with_reducible refine (plus_long (sumL (l.take k)).1 (decide (v < 0)) (sumL (l.take k)).2 (absN v) _ Hs1.out Hs2.out).mono ?_); rintro e w2 ⟨rfl, hx2⟩; have B2 := hx2.blk B1; have hst := run_store_row (P := Tryz.prog) B2 (cs := arrA (plusB (sumL (l.take k)).1 (decide (v < 0)) (sumL (l.take k)).2 (absN v)) (dg (plusN (sumL (l.take k)).1 (decide (v < 0)) (sumL (l.take k)).2 (absN v)))) (by rw [arr_size, arr_size]) (arr_one _ _); have s17 := arr_size (plusB (sumL (l.take k)).1 (decide (v < 0)) (sumL (l.take k)).2 (absN v)) (dg (plusN (sumL (l.take k)).1 (decide (v < 0)) (sumL (l.take k)).2 (absN v)))))
      all_goals
        clear hst s17 zl
        have B3 := BlkR (g' := w.heap.size + 1) (ds := arrA (plusB (sumL (l.take k)).1 (decide (v < 0)) (sumL (l.take k)).2 (absN v)) (dg (plusN (sumL (l.take k)).1 (decide (v < 0)) (sumL (l.take k)).2 (absN v)))) (by omega) (hx2.blk (hx1.blk b0))
        go_wp2_with fail
        go_roundw
        case rel => exact ⟨k + 1, by omega, by go_num, (by repeat (first | with_reducible exact Below.refl _ _ | with_reducible assumption | with_reducible refine ExtD ?_ | with_reducible refine ExtDN ?_ | with_reducible refine ExtA ?_ | (with_reducible refine ExtR ?_ ?_; (first | omega | (dsimp only; omega) | (simp; done) | (simp; omega))) | (with_reducible refine ExtS ?_ ?_; (first | omega | (dsimp only; omega) | (simp; done) | (simp; omega))) | with_reducible refine Ext.tr ?_ (by with_reducible assumption))), B3, by rw [Hstep.out]; exact B2.setRow_⟩
        case measure => simp [intOf]; omega
    · have hkn : k = n := by omega
      subst hkn
      rw [List.take_of_length_le (by omega)] at b1
      go_wp2_with (first
        | (with_reducible refine wpL_load_row rfl 64 (.tmp 3) rfl _ 64 (arrA (sumL l).1 (dg (sumL l).2)) 17 rfl b1 long_wide (arr_size _ _) ?_)
        | (with_reducible refine wpL_store_row rfl 64 (.tmp 2) (.tmp 19) rfl _ 64 (arrA false fun _ => 0) (arrA (sumL l).1 (dg (sumL l).2)) rfl rfl b0 (by rw [arr_size, arr_size]) (arr_one _ _) 17 long_wide (arr_size _ _) ?_))
      exact bodyPost_ret (v := .agg (arrA (sumL l).1 (dg (sumL l).2))) (res_row rfl _ _ _ 64 _ 17 rfl b0.setRow_ long_wide (arr_size _ _)) rfl ⟨rfl, (by repeat (first | with_reducible exact Below.refl _ _ | with_reducible assumption | with_reducible refine ExtD ?_ | with_reducible refine ExtDN ?_ | with_reducible refine ExtA ?_ | (with_reducible refine ExtR ?_ ?_; (first | omega | (dsimp only; omega) | (simp; done) | (simp; omega))) | (with_reducible refine ExtS ?_ ?_; (first | omega | (dsimp only; omega) | (simp; done) | (simp; omega))) | with_reducible refine Ext.tr ?_ (by with_reducible assumption)))⟩
end Go.Proofs.YtjomgppbialeoaaGreat
