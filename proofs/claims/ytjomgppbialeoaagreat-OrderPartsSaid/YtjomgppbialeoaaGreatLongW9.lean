/-
  The walk of the reference's MulDiv, and of the law NumDivs.
-/
import Derived.Test.YtjomgppbialeoaaGreatLongW7
import Derived.Test.YtjomgppbialeoaaGreatLongW1
import Derived.Test.YtjomgppbialeoaaGreatNumW3
namespace Go.Proofs.YtjomgppbialeoaaGreat
open Go.RowKit
set_option linter.unusedVariables false
set_option linter.unusedSimpArgs false
theorem p256 (p : Nat) (h : p ≤ 85070591730234615865843651857942052864) : p < 2 ^ 256 := by omega
theorem q16 (p z : Nat) (h : p ≤ 85070591730234615865843651857942052864) : p / z < 65536 ^ 16 := Nat.lt_of_le_of_lt (Nat.div_le_self p z) (by omega)
theorem n128 (p : Nat) (h : p ≤ 9223372036854775808) : p ≤ 340282366920938463463374607431768211456 := by omega
set_option maxHeartbeats 2000000 in
theorem refmd_any (a b d : Int) (w : World) (ha0 : -9223372036854775808 ≤ a) (ha1 : a ≤ 9223372036854775807) (hb0 : -9223372036854775808 ≤ b) (hb1 : b ≤ 9223372036854775807) (hd0 : -9223372036854775808 ≤ d) (hd1 : d ≤ 9223372036854775807) :
    Calls Tryz.prog 38 #[.int .i64 a, .int .i64 b, .int .i64 d] w fun e w' => e = .returned (.tuple #[.int .i64 (mdV a b d), .bool (mdF a b d)]) ∧ Ext w w' := by
  by_cases hd : d = 0
  · subst hd
    have m1 : mdF a b 0 = false := rfl
    have m2 : mdV a b 0 = 0 := by unfold mdV; rw [m1]; rfl
    rw [m1, m2]
    go_enter Tryz.func38, Tryz.ntmps38
    go_wp2_with fail
    go_ret2
    exact ⟨rfl, (by repeat (first | with_reducible exact Below.refl _ _ | with_reducible assumption | with_reducible refine ExtD ?_ | with_reducible refine ExtDN ?_ | with_reducible refine ExtA ?_ | (with_reducible refine ExtR ?_ ?_; (first | omega | (dsimp only; omega) | (simp; done) | (simp; omega))) | (with_reducible refine ExtS ?_ ?_; (first | omega | (dsimp only; omega) | (simp; done) | (simp; omega))) | with_reducible refine Ext.tr ?_ (by with_reducible assumption)))⟩
  · have la := absN_lt a ha0 ha1
    have lb := absN_lt b hb0 hb1
    have ld := absN_lt d hd0 hd1
    have hz : 0 < absN d := by unfold absN; omega
    have tz : decide (d = 0) = false := by simpa using hd
    have tz2 : (d == 0) = false := by simpa using hd
    have A1 := Lib.hid (big8 (absN a) la)
    have A2 := Lib.hid (big8 (absN b) lb)
    have lp := prod_lt _ _ la lb
    have A3 := Lib.hid (p256 _ lp)
    have A4 := Lib.hid (q16 _ (absN d) lp)
    have A5 := Lib.hid (n128 _ ld)
    have A6 := Lib.hid hz
    have HV : Hid (mdQ a b d = sg ((decide (a < 0) != decide (b < 0)) != decide (d < 0)) (absN a * absN b / absN d)) := Lib.hid rfl
    have HF : Hid (mdF a b d = fits64 (mdQ a b d)) := Lib.hid (by unfold mdF; rw [if_neg hd])
    have HW : Hid (mdV a b d = nf (mdQ a b d)) := Lib.hid (by unfold mdV nf; rw [HF.out])
    clear la lb ld hz lp hd
    have z2 := arr_zero false
    go_enter Tryz.func38, Tryz.ntmps38
    go_wp2_with (first
      | (go_at_call 33; (with_reducible refine (of_any a _ ha0 ha1).mono ?_); rintro e w1 ⟨rfl, hx1⟩)
      | (go_at_call 33; (with_reducible refine (of_any b _ hb0 hb1).mono ?_); rintro e w2 ⟨rfl, hx2⟩)
      | (go_at_call 33; go_must (with_reducible refine (of_any d _ hd0 hd1).mono ?_); rintro e w4 ⟨rfl, hx4⟩)
      | (go_at_call 35; go_must (with_reducible refine (times_any _ _ _ _ _ A1.out A2.out).mono ?_); rintro e w3 ⟨rfl, hx3⟩)
      | (go_at_call 34; go_must (with_reducible refine (over_any _ _ _ _ _ A3.out A6.out A5.out).mono ?_); rintro e w5 ⟨rfl, hx5⟩)
      | (with_reducible refine wpL_store_row rfl 64 (.tmp 8) (.tmp 21) rfl _ 64 (arrA false fun _ => 0) (arrA (decide (a < 0) != (decide (b < 0) != decide (d < 0))) (dg (absN a * absN b / absN d))) rfl rfl (BlkA (BlkN (by simp))) (by rw [arr_size, arr_size]) (arr_one _ _) 17 long_wide (arr_size _ _) ?_)
      | (with_reducible refine wpL_store_row rfl 64 (.tmp 9) (.tmp 22) rfl _ 64 (arrA false fun _ => 0) (arrA false (dg (absN a * absN b % absN d))) rfl rfl (BlkR (by omega) (BlkN (by simp))) (by rw [arr_size, arr_size]) (arr_one _ _) 17 long_wide (arr_size _ _) ?_)
      | (with_reducible refine wpL_load_row rfl 64 (.tmp 8) rfl _ 64 (arrA (decide (a < 0) != (decide (b < 0) != decide (d < 0))) (dg (absN a * absN b / absN d))) 17 rfl (BlkR (by omega) (BlkA (BlkN (by simp))).setRow_) long_wide (arr_size _ _) ?_)
      | (go_at_call 31; go_must (with_reducible refine (fits_any _ _ _ A4.out).mono ?_); rintro e w6 ⟨rfl, hx6⟩))
    go_ret2
    have hv := HV.out
    rw [show ((decide (a < 0) != decide (b < 0)) != decide (d < 0)) = (decide (a < 0) != (decide (b < 0) != decide (d < 0))) by simp] at hv
    have h5 := ((((hx1.tr hx2).tr hx3).tr hx4).tr hx5)
    have q5 := h5.size
    exact ⟨ret_ib (by rw [HW.out, hv]) (by rw [HF.out, hv]), Ext.tr (ExtR (by omega) (ExtR (by omega) (ExtA (ExtA h5)))) hx6⟩
end Go.Proofs.YtjomgppbialeoaaGreat
