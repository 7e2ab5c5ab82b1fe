/-
  The walk of the law NumAdds.
-/
import Derived.Test.YtedmbebieijofaaNumLawA
namespace Go.Proofs.Ytedmbebieijofaa
open Go.RowKit
set_option linter.unusedVariables false
set_option linter.unusedSimpArgs false
set_option maxHeartbeats 4000000 in
theorem numAdds_walk (a b : Int) (w : World) (ha0 : -9223372036854775808 ≤ a) (ha1 : a ≤ 9223372036854775807) (hb0 : -9223372036854775808 ≤ b) (hb1 : b ≤ 9223372036854775807) :
    Calls Try.prog 5 #[.int .i64 a, .int .i64 b] w fun e w' => e = .returned (.bool true) ∧ Ext w w' := by
  have la := absN_lt a ha0 ha1
  have lb := absN_lt b hb0 hb1
  have A1 := Lib.hid (big16 (absN a) (by omega))
  have A2 := Lib.hid (big16 (absN b) (by omega))
  have A3 := Lib.hid (big16 (plusN (decide (a < 0)) (decide (b < 0)) (absN a) (absN b)) (Nat.le_trans (plusN_le _ _ _ _) (by omega)))
  have A4 := Lib.hid (big16 (plusN (decide (a < 0)) (!decide (b < 0)) (absN a) (absN b)) (Nat.le_trans (plusN_le _ _ _ _) (by omega)))
  have P1 := Lib.hid (plus_num a b)
  have P2 := Lib.hid (minus_num a b)
  have z2 := arr_zero false
  clear la lb
  go_enter Try.func5, Try.ntmps5
  go_upto_region 7 with (first
    | (go_at_call 13; go_must (with_reducible refine (head_any _).mono ?_); rintro e w1 ⟨rfl, hx1⟩)
    | (go_at_call 18; with_reducible refine (of_any a _ ha0 ha1).mono ?_; rintro e w2 ⟨rfl, hx2⟩)
    | (go_at_call 18; go_must (with_reducible refine (of_any b _ hb0 hb1).mono ?_); rintro e w3 ⟨rfl, hx3⟩)
    | (go_at_call 17; go_must (with_reducible refine (plus_long _ _ _ _ _ A1.out A2.out).mono ?_); rintro e w4 ⟨rfl, hx4⟩)
    | (go_at_call 16; go_must (with_reducible refine (fits_any _ _ _ A3.out).mono ?_); rintro e w5 ⟨rfl, hx5⟩; have p1 := P1.out)
    | (go_at_call 19; go_must (with_reducible refine (add_any a b _ ha0 ha1 hb0 hb1).mono ?_); rintro e w6 ⟨rfl, hx6⟩))
  have hxa : Ext w w6 := (by repeat (first | with_reducible exact Below.refl _ _ | with_reducible assumption | with_reducible refine ExtD ?_ | with_reducible refine ExtDN ?_ | with_reducible refine ExtA ?_ | (with_reducible refine ExtR ?_ ?_; (first | omega | (dsimp only; omega) | (simp; done) | (simp; omega))) | (with_reducible refine ExtS ?_ ?_; (first | omega | (dsimp only; omega) | (simp; done) | (simp; omega))) | with_reducible refine Ext.tr ?_ (by with_reducible assumption)))
  have k0 := arr_get0 (decide (b < 0)) (dg (absN b))
  have k1 := arr_set0 (decide (b < 0)) (!decide (b < 0)) (dg (absN b))
  go_upto_region 9 with (first
    | (go_at_call 18; go_must (with_reducible refine (of_any b _ hb0 hb1).mono ?_); rintro e w7 ⟨rfl, hx7⟩)
    | with_reducible refine wpL_store_new rfl 33 (.tmp 9) (.tmp 36) rfl w7.heap.size 33 (arrA false fun _ => 0) (arrA (decide (b < 0)) (dg (absN b))) rfl rfl rfl (by rw [arr_size, arr_size]) (arr_one _ _) 17 long_wide (arr_size _ _) ?_)
  have hxb : Ext w w7 := (by repeat (first | with_reducible exact Below.refl _ _ | with_reducible assumption | with_reducible refine ExtD ?_ | with_reducible refine ExtDN ?_ | with_reducible refine ExtA ?_ | (with_reducible refine ExtR ?_ ?_; (first | omega | (dsimp only; omega) | (simp; done) | (simp; omega))) | (with_reducible refine ExtS ?_ ?_; (first | omega | (dsimp only; omega) | (simp; done) | (simp; omega))) | with_reducible refine Ext.tr ?_ (by with_reducible assumption)))
  clear k0 k1 z2 hx1 hx2 hx3 hx4 hx5 hx6 hx7 hxa
  obtain ⟨W, HW⟩ : ∃ W, Hid (W = w7.alloc (.cells (arrA (!decide (b < 0)) (dg (absN b))) 33)) := ⟨_, rfl⟩
  have B0 : Blk W w7.heap.size 33 (arrA (!decide (b < 0)) (dg (absN b))) := by rw [HW.out]; exact (by repeat (first | with_reducible assumption | (with_reducible refine BlkN ?_; (first | rfl | (first | omega | (dsimp only; omega) | (simp; done) | (simp; omega)))) | with_reducible refine BlkD ?_ | with_reducible refine BlkDN ?_ | with_reducible refine BlkA ?_ | with_reducible refine BlkE ?_ (by with_reducible assumption) | with_reducible refine BlkS ?_ | (with_reducible refine BlkF ?_ ?_; (first | omega | (dsimp only; omega) | (simp; done) | (simp; omega))) | (with_reducible refine BlkR ?_ ?_; (first | omega | (dsimp only; omega) | (simp; done) | (simp; omega)))))
  have hxc : Ext w W := by rw [HW.out]; exact (by repeat (first | with_reducible exact Below.refl _ _ | with_reducible assumption | with_reducible refine ExtD ?_ | with_reducible refine ExtDN ?_ | with_reducible refine ExtA ?_ | (with_reducible refine ExtR ?_ ?_; (first | omega | (dsimp only; omega) | (simp; done) | (simp; omega))) | (with_reducible refine ExtS ?_ ?_; (first | omega | (dsimp only; omega) | (simp; done) | (simp; omega))) | with_reducible refine Ext.tr ?_ (by with_reducible assumption)))

  rw [← HW.out]
  obtain ⟨c0, c1, c2, c3, c4, c5, c6, c7, c8, c9, c10, c11, c12, c13, c14, c15, c16⟩ := arr_cells B0
  have zl := arr_lit (!decide (b < 0)) (dg (absN b))
  go_region_with (first
    | (go_at_call 18; go_must (with_reducible refine (of_any a _ ha0 ha1).mono ?_); rintro e w8 ⟨rfl, hx8⟩; have B1 := hx8.blk B0; obtain ⟨e0, e1, e2, e3, e4, e5, e6, e7, e8, e9, e10, e11, e12, e13, e14, e15, e16⟩ := arr_cells B1)
    | (go_at_call 17; go_must (with_reducible refine (plus_long _ _ _ _ _ A1.out A2.out).mono ?_); rintro e w9 ⟨rfl, hx9⟩)
    | (go_at_call 16; go_must (with_reducible refine (fits_any _ _ _ A4.out).mono ?_); rintro e w10 ⟨rfl, hx10⟩; have p2 := P2.out))
  all_goals
    go_wp2_with (go_at_call 20; go_must (with_reducible refine (sub_any a b _ ha0 ha1 hb0 hb1).mono ?_); rintro e w11 ⟨rfl, rfl⟩)
    go_ret
    exact ⟨by simp, (by repeat (first | with_reducible exact Below.refl _ _ | with_reducible assumption | with_reducible refine ExtD ?_ | with_reducible refine ExtDN ?_ | with_reducible refine ExtA ?_ | (with_reducible refine ExtR ?_ ?_; (first | omega | (dsimp only; omega) | (simp; done) | (simp; omega))) | (with_reducible refine ExtS ?_ ?_; (first | omega | (dsimp only; omega) | (simp; done) | (simp; omega))) | with_reducible refine Ext.tr ?_ (by with_reducible assumption)))⟩
end Go.Proofs.Ytedmbebieijofaa
