/-
  Plain laws of the long division, bit by bit. No program is walked here.
-/
import Derived.Test.YtedmbebieijofaaLongM
namespace Go.Proofs.Ytedmbebieijofaa
open Go.RowKit
set_option linter.unusedVariables false
set_option linter.unusedSimpArgs false
theorem pow16 (i : Nat) : 65536 ^ i = 2 ^ (16 * i) := by rw [Nat.pow_mul]
/-- The state of the long division of m by n when the bits from k on are done: quotient so far, rest. -/
def ovQ (m n k : Nat) : Nat := m / 2 ^ k / n * 2 ^ k
def ovR (m n k : Nat) : Nat := m / 2 ^ k % n
def bitOf (m k : Nat) : Nat := m / 2 ^ k % 2
theorem half_bit (m k : Nat) : m / 2 ^ k = 2 * (m / 2 ^ (k + 1)) + bitOf m k := by
  unfold bitOf
  rw [Nat.pow_succ, ← Nat.div_div_eq_div_mul]
  omega
theorem bit_le (m k : Nat) : bitOf m k ≤ 1 := by unfold bitOf; omega
theorem bit_dg (m k : Nat) : dg m (k / 16) / 2 ^ (k % 16) % 2 = bitOf m k := by
  unfold dg bitOf
  have hk : k = 16 * (k / 16) + k % 16 := by omega
  have hs : k % 16 ≤ 15 := by omega
  rw [pow16]
  have e : m / 2 ^ k = m / 2 ^ (16 * (k / 16)) / 2 ^ (k % 16) := by
    rw [Nat.div_div_eq_div_mul, ← Nat.pow_add, ← hk]
  rw [e]
  generalize m / 2 ^ (16 * (k / 16)) = x
  generalize k % 16 = s at *
  have h : (65536 : Nat) = 2 ^ s * 2 ^ (16 - s) := by rw [← Nat.pow_add, show s + (16 - s) = 16 by omega]
  rw [h, Nat.mod_mul_right_div_self]
  have h2 : 2 ^ (16 - s) = 2 * 2 ^ (15 - s) := by rw [show 16 - s = (15 - s) + 1 by omega, Nat.pow_succ, Nat.mul_comm]
  rw [h2, Nat.mod_mul_right_mod]
theorem rest_next (m n k : Nat) (hn : 0 < n) : ovR m n k = if n ≤ 2 * ovR m n (k + 1) + bitOf m k then 2 * ovR m n (k + 1) + bitOf m k - n else 2 * ovR m n (k + 1) + bitOf m k := by
  unfold ovR
  rw [half_bit m k]
  have h := Nat.div_add_mod (m / 2 ^ (k + 1)) n
  have hl := Nat.mod_lt (m / 2 ^ (k + 1)) hn
  have hb := bit_le m k
  generalize hq : m / 2 ^ (k + 1) / n = q at *
  generalize hr : m / 2 ^ (k + 1) % n = r at *
  generalize m / 2 ^ (k + 1) = x at *
  have e : 2 * x + bitOf m k = 2 * r + bitOf m k + n * (2 * q) := by rw [← h, Nat.mul_left_comm]; omega
  rw [e, Nat.add_mul_mod_self_left]
  split
  · rw [Nat.mod_eq_sub_mod (by omega), Nat.mod_eq_of_lt (by omega)]
  · rw [Nat.mod_eq_of_lt (by omega)]
theorem quot_next (m n k : Nat) (hn : 0 < n) : ovQ m n k = if n ≤ 2 * ovR m n (k + 1) + bitOf m k then ovQ m n (k + 1) + 2 ^ k else ovQ m n (k + 1) := by
  unfold ovQ ovR
  rw [half_bit m k]
  have h := Nat.div_add_mod (m / 2 ^ (k + 1)) n
  have hl := Nat.mod_lt (m / 2 ^ (k + 1)) hn
  have hb := bit_le m k
  generalize hq : m / 2 ^ (k + 1) / n = q at *
  generalize hr : m / 2 ^ (k + 1) % n = r at *
  generalize m / 2 ^ (k + 1) = x at *
  have e : 2 * x + bitOf m k = 2 * r + bitOf m k + n * (2 * q) := by rw [← h, Nat.mul_left_comm]; omega
  rw [e, Nat.add_mul_div_left _ _ hn]
  have e2 : q * 2 ^ (k + 1) = 2 * q * 2 ^ k := by rw [Nat.pow_succ, Nat.mul_comm (2 ^ k) 2, ← Nat.mul_assoc, Nat.mul_comm q 2]
  rw [e2]
  split
  · rw [show (2 * r + bitOf m k) / n = 1 by rw [Nat.div_eq_iff hn]; omega, Nat.add_mul, Nat.one_mul, Nat.add_comm]
  · rw [Nat.div_eq_of_lt (by omega), Nat.zero_add]
/-- The last digit of an even number takes one more. -/
theorem even_set (x b : Nat) (hx : x % 2 = 0) (hb : b ≤ 1) : dg x 0 + b < 65536 ∧ setD x 0 (dg x 0 + b) = x + b := by
  have h : dg x 0 = x % 65536 := by simp [dg]
  refine ⟨by omega, ?_⟩
  unfold setD
  rw [h, Nat.pow_zero, Nat.mul_one, Nat.mul_one]
  have := Nat.mod_le x 65536
  omega
/-- A bit that is not set is set. -/
theorem bit_set (q k : Nat) : dg (q * 2 ^ (k + 1)) (k / 16) + 2 ^ (k % 16) < 65536 ∧ setD (q * 2 ^ (k + 1)) (k / 16) (dg (q * 2 ^ (k + 1)) (k / 16) + 2 ^ (k % 16)) = q * 2 ^ (k + 1) + 2 ^ k := by
  have hk : k = 16 * (k / 16) + k % 16 := by omega
  have hs : k % 16 ≤ 15 := by omega
  constructor
  · unfold dg
    rw [pow16, show 2 ^ (k + 1) = 2 ^ (k % 16 + 1) * 2 ^ (16 * (k / 16)) by rw [← Nat.pow_add]; congr 1; omega, ← Nat.mul_assoc, Nat.mul_div_cancel _ (Nat.pow_pos (by decide))]
    generalize k % 16 = s at *
    have h : (65536 : Nat) = 2 ^ (s + 1) * 2 ^ (15 - s) := by rw [← Nat.pow_add, show s + 1 + (15 - s) = 16 by omega]
    have h2 : 2 ^ s < 2 ^ (s + 1) := Nat.pow_lt_pow_right (by decide) (by omega)
    have e : q * 2 ^ (s + 1) % 65536 = 2 ^ (s + 1) * (q % 2 ^ (15 - s)) := by rw [h, Nat.mul_comm q, Nat.mul_mod_mul_left]
    have hl : q % 2 ^ (15 - s) + 1 ≤ 2 ^ (15 - s) := Nat.mod_lt _ (Nat.pow_pos (by decide))
    have h3 := Nat.mul_le_mul_left (2 ^ (s + 1)) hl
    rw [← h, Nat.mul_add, Nat.mul_one] at h3
    rw [e]
    omega
  · have hd := dg_le_num (q * 2 ^ (k + 1)) (k / 16)
    unfold setD
    rw [Nat.add_mul, pow16] at *
    have e : 2 ^ (k % 16) * 2 ^ (16 * (k / 16)) = 2 ^ k := by rw [← Nat.pow_add]; congr 1; omega
    rw [e]
    omega
theorem ovQ_top (m n : Nat) (hm : m < 2 ^ 256) : ovQ m n 256 = 0 := by unfold ovQ; rw [Nat.div_eq_of_lt hm]; simp
theorem ovR_top (m n : Nat) (hm : m < 2 ^ 256) : ovR m n 256 = 0 := by unfold ovR; rw [Nat.div_eq_of_lt hm]; simp
theorem ovQ_end (m n : Nat) : ovQ m n 0 = m / n := by simp [ovQ]
theorem ovR_end (m n : Nat) : ovR m n 0 = m % n := by simp [ovR]
theorem ovR_lt (m n k : Nat) (hn : 0 < n) : ovR m n k < n := Nat.mod_lt _ hn
end Go.Proofs.Ytedmbebieijofaa
