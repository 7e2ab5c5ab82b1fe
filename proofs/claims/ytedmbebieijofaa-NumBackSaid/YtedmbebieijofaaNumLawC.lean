/-
  The walk of the law NumBack.
-/
import Derived.Test.YtedmbebieijofaaNumLawA
namespace Go.Proofs.Ytedmbebieijofaa
open Go.RowKit
set_option linter.unusedVariables false
set_option linter.unusedSimpArgs false
theorem nf_of {s : Int} (h : fits64 s = true) : nf s = s := by unfold nf; rw [h]; rfl
theorem fits_in (s : Int) (h0 : -9223372036854775808 ≤ s) (h1 : s ≤ 9223372036854775807) : fits64 s = true := decide_eq_true ⟨h0, h1⟩
theorem mdQ_self (a b : Int) (h : b ≠ 0) : mdQ a b b = a := by
  have hb : 0 < absN b := by unfold absN; omega
  unfold mdQ
  rw [Nat.mul_div_cancel _ hb, show ((decide (a < 0) != decide (b < 0)) != decide (b < 0)) = decide (a < 0) by cases decide (a < 0) <;> cases decide (b < 0) <;> rfl, sg_abs]
theorem mdQ_one (a b : Int) : mdQ a b 1 = a * b := by
  unfold mdQ
  rw [show absN 1 = 1 from rfl, Nat.div_one, show ((decide (a < 0) != decide (b < 0)) != decide ((1 : Int) < 0)) = (decide (a < 0) != decide (b < 0)) by cases decide (a < 0) <;> cases decide (b < 0) <;> rfl, sg_mul]
set_option maxHeartbeats 2000000 in
theorem numBack_walk (a b : Int) (w : World) (ha0 : -9223372036854775808 ≤ a) (ha1 : a ≤ 9223372036854775807) (hb0 : -9223372036854775808 ≤ b) (hb1 : b ≤ 9223372036854775807) :
    Calls Try.prog 10 #[.int .i64 a, .int .i64 b] w fun e w' => e = .returned (.bool true) ∧ Ext w w' := by
  have m1 : mdF a a 0 = false := rfl
  have m3 : mdF a b 1 = fits64 (a * b) := by unfold mdF; rw [if_neg (show ¬ (1 : Int) = 0 by decide), mdQ_one]
  have m2 : mdV a b 1 = nf (a * b) := by unfold mdV nf; rw [m3, mdQ_one]
  have fa := fits_in a ha0 ha1
  have m4 : b ≠ 0 → mdF a b b = true := fun h => by unfold mdF; rw [if_neg h, mdQ_self a b h]; exact fa
  have m5 : b ≠ 0 → mdV a b b = a := fun h => by unfold mdV; rw [m4 h, mdQ_self a b h]; rfl
  by_cases hz : b = 0
  · subst hz
    have a0 : a + 0 = a := by omega
    have a1 : a - 0 = a := by omega
    have n0 := nf_of fa
    clear m2 m3 m4 m5
    go_enter Try.func10, Try.ntmps10
    go_wp2_with (first
      | (go_at_call 13; go_must (with_reducible refine (head_any _).mono ?_); rintro e w1 ⟨rfl, hx1⟩)
      | (go_at_call 19; go_must (with_reducible refine (add_any a 0 _ ha0 ha1 hb0 hb1).mono ?_); rintro e w2 ⟨rfl, hx2⟩)
      | (go_at_call 20; go_must (with_reducible refine (sub_any a 0 _ ha0 ha1 hb0 hb1).mono ?_); rintro e w3 ⟨rfl, rfl⟩)
      | (go_at_call 15; go_must (with_reducible refine (muldiv_any a a 0 _ ha0 ha1 ha0 ha1 hb0 hb1).mono ?_); rintro e w4 ⟨rfl, hx4⟩))
    go_ret
    exact ⟨by simp, (by repeat (first | with_reducible exact Below.refl _ _ | with_reducible assumption | with_reducible refine ExtD ?_ | with_reducible refine ExtDN ?_ | with_reducible refine ExtA ?_ | (with_reducible refine ExtR ?_ ?_; (first | omega | (dsimp only; omega) | (simp; done) | (simp; omega))) | (with_reducible refine ExtS ?_ ?_; (first | omega | (dsimp only; omega) | (simp; done) | (simp; omega))) | with_reducible refine Ext.tr ?_ (by with_reducible assumption)))⟩
  · have k4 := m4 hz
    have k5 := m5 hz
    have hz1 : (b == 0) = false := by simpa using hz
    clear m1 m4 m5 hz
    cases hf : fits64 (a + b)
    · have Hf := Lib.hid hf
      go_enter Try.func10, Try.ntmps10
      go_wp2_with (first
        | (go_at_call 13; go_must (with_reducible refine (head_any _).mono ?_); rintro e w1 ⟨rfl, hx1⟩)
        | (go_at_call 19; go_must (with_reducible refine (add_any a b _ ha0 ha1 hb0 hb1).mono ?_); rintro e w2 ⟨rfl, hx2⟩)
        | (go_at_call 15; with_reducible refine (muldiv_any a b b _ ha0 ha1 hb0 hb1 hb0 hb1).mono ?_; rintro e w3 ⟨rfl, hx3⟩)
        | (go_at_call 24; go_must (with_reducible refine (mul_any a b _ ha0 ha1 hb0 hb1).mono ?_); rintro e w4 ⟨rfl, hx4⟩)
        | (go_at_call 15; go_must (with_reducible refine (muldiv_any a b 1 _ ha0 ha1 hb0 hb1 (by omega) (by omega)).mono ?_); rintro e w5 ⟨rfl, hx5⟩))
      go_ret
      exact ⟨by simp, (by repeat (first | with_reducible exact Below.refl _ _ | with_reducible assumption | with_reducible refine ExtD ?_ | with_reducible refine ExtDN ?_ | with_reducible refine ExtA ?_ | (with_reducible refine ExtR ?_ ?_; (first | omega | (dsimp only; omega) | (simp; done) | (simp; omega))) | (with_reducible refine ExtS ?_ ?_; (first | omega | (dsimp only; omega) | (simp; done) | (simp; omega))) | with_reducible refine Ext.tr ?_ (by with_reducible assumption)))⟩
    · have Hf := Lib.hid hf
      have hr : -9223372036854775808 ≤ a + b ∧ a + b ≤ 9223372036854775807 := of_decide_eq_true hf
      have n1 := nf_of hf
      have e1 : a + b - b = a := by omega
      have n2 := nf_of fa
      go_enter Try.func10, Try.ntmps10
      go_wp2_with (first
        | (go_at_call 13; go_must (with_reducible refine (head_any _).mono ?_); rintro e w1 ⟨rfl, hx1⟩)
        | (go_at_call 19; go_must (with_reducible refine (add_any a b _ ha0 ha1 hb0 hb1).mono ?_); rintro e w2 ⟨rfl, hx2⟩)
        | (go_at_call 20; go_must (with_reducible refine (sub_any (a + b) b _ hr.1 hr.2 hb0 hb1).mono ?_); rintro e w6 ⟨rfl, rfl⟩)
        | (go_at_call 15; with_reducible refine (muldiv_any a b b _ ha0 ha1 hb0 hb1 hb0 hb1).mono ?_; rintro e w3 ⟨rfl, hx3⟩)
        | (go_at_call 24; go_must (with_reducible refine (mul_any a b _ ha0 ha1 hb0 hb1).mono ?_); rintro e w4 ⟨rfl, hx4⟩)
        | (go_at_call 15; go_must (with_reducible refine (muldiv_any a b 1 _ ha0 ha1 hb0 hb1 (by omega) (by omega)).mono ?_); rintro e w5 ⟨rfl, hx5⟩))
      go_ret
      exact ⟨by simp, (by repeat (first | with_reducible exact Below.refl _ _ | with_reducible assumption | with_reducible refine ExtD ?_ | with_reducible refine ExtDN ?_ | with_reducible refine ExtA ?_ | (with_reducible refine ExtR ?_ ?_; (first | omega | (dsimp only; omega) | (simp; done) | (simp; omega))) | (with_reducible refine ExtS ?_ ?_; (first | omega | (dsimp only; omega) | (simp; done) | (simp; omega))) | with_reducible refine Ext.tr ?_ (by with_reducible assumption)))⟩
end Go.Proofs.Ytedmbebieijofaa
