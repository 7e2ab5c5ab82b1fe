/-
  Plain laws of long numbers (sixteen digits to the base 65536). No program is walked here.
-/
import Derived.Test.YtlpjhnecihhkfaaBase
namespace Go.Proofs.Ytlpjhnecihhkfaa
open Go.RowKit
set_option linter.unusedVariables false
set_option linter.unusedSimpArgs false
/-- Digit i of n to the base 65536. -/
def dg (n : Nat) (i : Nat) : Nat := n / 65536 ^ i % 65536
theorem dg_lt (n i : Nat) : dg n i < 65536 := Nat.mod_lt _ (by decide)
theorem pow_pos' (i : Nat) : 0 < 65536 ^ i := Nat.pow_pos (by decide)
/-- The carry into digit i of a sum. -/
def carry (m n i : Nat) : Nat := (m % 65536 ^ i + n % 65536 ^ i) / 65536 ^ i
theorem carry_le (m n i : Nat) : carry m n i ≤ 1 := by
  have h1 := Nat.mod_lt m (pow_pos' i)
  have h2 := Nat.mod_lt n (pow_pos' i)
  unfold carry
  generalize 65536 ^ i = p at *
  have : (m % p + n % p) / p < 2 := (Nat.div_lt_iff_lt_mul (by omega)).2 (by omega)
  omega
theorem split_sum (m n p : Nat) (hp : 0 < p) : (m + n) / p = m / p + n / p + (m % p + n % p) / p := by
  have h1 := Nat.div_add_mod m p
  have h2 := Nat.div_add_mod n p
  generalize m / p = a at *
  generalize n / p = b at *
  generalize m % p = c at *
  generalize n % p = d at *
  rw [← h1, ← h2, show p * a + c + (p * b + d) = (c + d) + p * (a + b) by rw [Nat.mul_add]; omega, Nat.add_mul_div_left _ _ hp]
  omega
theorem dg_add (m n i : Nat) : dg (m + n) i = (dg m i + dg n i + carry m n i) % 65536 := by
  unfold dg carry
  rw [split_sum m n _ (pow_pos' i)]
  omega
theorem mod_next (m i : Nat) : m % 65536 ^ (i + 1) = 65536 ^ i * dg m i + m % 65536 ^ i := by
  unfold dg
  rw [Nat.pow_succ, Nat.mod_mul, Nat.add_comm]
theorem carry_next (m n i : Nat) : carry m n (i + 1) = (dg m i + dg n i + carry m n i) / 65536 := by
  unfold carry
  rw [mod_next, mod_next]
  have hp := pow_pos' i
  rw [Nat.pow_succ, ← Nat.div_div_eq_div_mul]
  generalize 65536 ^ i = p at *
  generalize dg m i = d
  generalize dg n i = e
  rw [show p * d + m % p + (p * e + n % p) = (m % p + n % p) + p * (d + e) by rw [Nat.mul_add]; omega, Nat.add_mul_div_left _ _ hp]
  congr 1
  omega
theorem carry_zero (m n : Nat) : carry m n 0 = 0 := by simp [carry, Nat.mod_one]
/-- The borrow out of digit i of a difference. -/
def borrow (m n i : Nat) : Nat := if m % 65536 ^ i < n % 65536 ^ i then 1 else 0
theorem borrow_le (m n i : Nat) : borrow m n i ≤ 1 := by unfold borrow; split <;> omega
theorem borrow_zero (m n : Nat) : borrow m n 0 = 0 := by simp [borrow, Nat.mod_one]
theorem borrow_next (m n i : Nat) : borrow m n (i + 1) = 1 - (dg m i + 65536 - dg n i - borrow m n i) / 65536 := by
  have h1 := dg_lt m i
  have h2 := dg_lt n i
  have h3 := Nat.mod_lt m (pow_pos' i)
  have h4 := Nat.mod_lt n (pow_pos' i)
  unfold borrow
  rw [mod_next, mod_next]
  have hp := pow_pos' i
  generalize 65536 ^ i = p at *
  generalize dg m i = d at *
  generalize dg n i = e at *
  generalize m % p = a at *
  generalize n % p = b at *
  rcases Nat.lt_trichotomy d e with h | h | h
  · have hm : p * d + p ≤ p * e := by rw [← Nat.mul_succ]; exact Nat.mul_le_mul_left p h
    rw [if_pos (by omega)]
    split <;> omega
  · subst h
    by_cases hab : a < b
    · rw [if_pos (by omega), if_pos hab]; omega
    · rw [if_neg (by omega), if_neg hab]; omega
  · have hm : p * e + p ≤ p * d := by rw [← Nat.mul_succ]; exact Nat.mul_le_mul_left p h
    rw [if_neg (by omega)]
    split <;> omega
theorem split_diff (m n p : Nat) (hp : 0 < p) (h : n ≤ m) : (m - n) / p = m / p - n / p - (if m % p < n % p then 1 else 0) ∧ n / p + (if m % p < n % p then 1 else 0) ≤ m / p := by
  have h1 := Nat.div_add_mod m p
  have h2 := Nat.div_add_mod n p
  have h3 := Nat.mod_lt m hp
  have h4 := Nat.mod_lt n hp
  generalize m / p = a at *
  generalize n / p = b at *
  generalize m % p = c at *
  generalize n % p = d at *
  subst h1 h2
  have hab : b ≤ a := by
    rcases Nat.lt_or_ge a b with hlt | hge
    · have : p * a + p ≤ p * b := by rw [← Nat.mul_succ]; exact Nat.mul_le_mul_left p hlt
      omega
    · exact hge
  have e : p * a = p * b + p * (a - b) := by rw [← Nat.mul_add]; congr 1; omega
  split
  · rename_i hcd
    have hlt : b < a := by
      rcases Nat.lt_or_ge b a with hlt | hge
      · exact hlt
      · have : a = b := by omega
        subst this
        omega
    have e2 : p * (a - b) = p + p * (a - b - 1) := by
      rw [← Nat.mul_succ p (a - b - 1) |>.trans (by omega : p * (a - b - 1) + p = p + p * (a - b - 1))]
      congr 1
      omega
    refine ⟨?_, by omega⟩
    rw [show p * a + c - (p * b + d) = (p + c - d) + p * (a - b - 1) by omega, Nat.add_mul_div_left _ _ hp, Nat.div_eq_of_lt (by omega)]
    omega
  · refine ⟨?_, by omega⟩
    rw [show p * a + c - (p * b + d) = (c - d) + p * (a - b) by omega, Nat.add_mul_div_left _ _ hp, Nat.div_eq_of_lt (by omega)]
    omega
theorem dg_sub (m n i : Nat) (h : n ≤ m) : dg (m - n) i = (dg m i + 65536 - dg n i - borrow m n i) % 65536 := by
  obtain ⟨h1, h2⟩ := split_diff m n _ (pow_pos' i) h
  unfold dg borrow
  rw [h1]
  have h3 : (if m % 65536 ^ i < n % 65536 ^ i then 1 else 0 : Nat) ≤ 1 := by split <;> omega
  generalize (if m % 65536 ^ i < n % 65536 ^ i then 1 else 0 : Nat) = q at *
  generalize m / 65536 ^ i = a at *
  generalize n / 65536 ^ i = b at *
  omega
/-- A number of sixteen digits is known by them. -/
theorem val_dg (n k : Nat) : n % 65536 ^ (k + 1) = 65536 ^ k * dg n k + n % 65536 ^ k := mod_next n k
theorem cmp_at (m n k : Nat) (h : m / 65536 ^ (k + 1) = n / 65536 ^ (k + 1)) : (dg m k < dg n k → m < n) ∧ (dg n k < dg m k → n < m) ∧ (dg m k = dg n k → m / 65536 ^ k = n / 65536 ^ k) := by
  have key : ∀ x : Nat, x / 65536 ^ k = 65536 * (x / 65536 ^ (k + 1)) + dg x k := by
    intro x
    unfold dg
    rw [Nat.pow_succ, ← Nat.div_div_eq_div_mul]
    omega
  have hm := key m
  have hn := key n
  rw [h] at hm
  refine ⟨fun hlt => ?_, fun hlt => ?_, fun he => by omega⟩
  · rcases Nat.lt_or_ge m n with h1 | h1
    · exact h1
    · have := Nat.div_le_div_right (c := 65536 ^ k) h1
      omega
  · rcases Nat.lt_or_ge n m with h1 | h1
    · exact h1
    · have := Nat.div_le_div_right (c := 65536 ^ k) h1
      omega
/-- Whether a number fits 64 bits with a sign; the number, if it does. -/
def fits64 (s : Int) : Bool := decide (-9223372036854775808 ≤ s ∧ s ≤ 9223372036854775807)
def nf (s : Int) : Int := if fits64 s then s else 0
/-- The number of a sign and a size. -/
def sg (b : Bool) (n : Nat) : Int := if b then -(n : Int) else n
theorem dg_big (n j : Nat) (hj : 4 ≤ j) (h : dg n j ≠ 0) : 18446744073709551616 ≤ n := by
  rcases Nat.lt_or_ge n 18446744073709551616 with hlt | hge
  · exfalso
    apply h
    unfold dg
    have : 65536 ^ 4 ≤ 65536 ^ j := Nat.pow_le_pow_right (by decide) hj
    rw [Nat.div_eq_of_lt (by omega)]
  · exact hge
theorem dg_small (n : Nat) (hn : n < 65536 ^ 16) (h : ∀ j, 4 ≤ j → j < 16 → dg n j = 0) : n < 18446744073709551616 := by
  have key : ∀ k, k ≤ 12 → n % 65536 ^ (4 + k) = n % 65536 ^ 4 := by
    intro k
    induction k with
    | zero => intro _; rfl
    | succ k ih =>
      intro hk
      rw [← Nat.add_assoc, mod_next, h (4 + k) (by omega) (by omega), Nat.mul_zero, Nat.zero_add]
      exact ih (by omega)
  have h12 := key 12 (by omega)
  rw [show 4 + 12 = 16 from rfl, Nat.mod_eq_of_lt hn] at h12
  have := Nat.mod_lt n (pow_pos' 4)
  omega
theorem fits_pos (n : Nat) : fits64 (sg false n) = decide (n ≤ 9223372036854775807) := by
  simp only [fits64, sg, Bool.false_eq_true, if_false, decide_eq_decide]; omega
theorem fits_neg (n : Nat) : fits64 (sg true n) = decide (n ≤ 9223372036854775808) := by
  simp only [fits64, sg, if_true, decide_eq_decide]; omega
theorem fits_big (b : Bool) (n : Nat) (h : 9223372036854775809 ≤ n) : fits64 (sg b n) = false := by
  cases b
  · rw [fits_pos]; simp; omega
  · rw [fits_neg]; simp; omega
end Go.Proofs.Ytlpjhnecihhkfaa
