/-
  The walk of the law NumMuls.
-/
import Derived.Test.YtedmbebieijofaaNumLawA
import Derived.Test.YtedmbebieijofaaLongW7
namespace Go.Proofs.Ytedmbebieijofaa
open Go.RowKit
set_option linter.unusedVariables false
set_option linter.unusedSimpArgs false
theorem big8 (n : Nat) (h : n ≤ 9223372036854775808) : n < 65536 ^ 8 := by omega
set_option maxHeartbeats 2000000 in
theorem numMuls_walk (a b : Int) (w : World) (ha0 : -9223372036854775808 ≤ a) (ha1 : a ≤ 9223372036854775807) (hb0 : -9223372036854775808 ≤ b) (hb1 : b ≤ 9223372036854775807) :
    Calls Try.prog 7 #[.int .i64 a, .int .i64 b] w fun e w' => e = .returned (.bool true) ∧ Ext w w' := by
  have la := absN_lt a ha0 ha1
  have lb := absN_lt b hb0 hb1
  have A1 := Lib.hid (big8 (absN a) la)
  have A2 := Lib.hid (big8 (absN b) lb)
  have A3 := Lib.hid (big16 (absN a * absN b) (Nat.le_trans (prod_lt _ _ la lb) (by omega)))
  have P1 := Lib.hid (sg_mul a b)
  clear la lb
  go_enter Try.func7, Try.ntmps7
  go_wp2_with (first
    | (go_at_call 13; go_must (with_reducible refine (head_any _).mono ?_); rintro e w1 ⟨rfl, hx1⟩)
    | (go_at_call 18; with_reducible refine (of_any a _ ha0 ha1).mono ?_; rintro e w2 ⟨rfl, hx2⟩)
    | (go_at_call 18; go_must (with_reducible refine (of_any b _ hb0 hb1).mono ?_); rintro e w3 ⟨rfl, hx3⟩)
    | (go_at_call 23; go_must (with_reducible refine (times_any _ _ _ _ _ A1.out A2.out).mono ?_); rintro e w4 ⟨rfl, hx4⟩)
    | (go_at_call 16; go_must (with_reducible refine (fits_any _ _ _ A3.out).mono ?_); rintro e w5 ⟨rfl, hx5⟩)
    | (go_at_call 24; go_must (with_reducible refine (mul_any a b _ ha0 ha1 hb0 hb1).mono ?_); rintro e w6 ⟨rfl, hx6⟩; have p1 := P1.out))
  go_ret
  exact ⟨by simp, (by repeat (first | with_reducible exact Below.refl _ _ | with_reducible assumption | with_reducible refine ExtD ?_ | with_reducible refine ExtDN ?_ | with_reducible refine ExtA ?_ | (with_reducible refine ExtR ?_ ?_; (first | omega | (dsimp only; omega) | (simp; done) | (simp; omega))) | (with_reducible refine ExtS ?_ ?_; (first | omega | (dsimp only; omega) | (simp; done) | (simp; omega))) | with_reducible refine Ext.tr ?_ (by with_reducible assumption)))⟩
end Go.Proofs.Ytedmbebieijofaa
