/-
  Plain laws of the long product: one digit set, the carry carried on. No program is walked here.
-/
import Derived.Test.YtedmbebieijofaaLongP
namespace Go.Proofs.Ytedmbebieijofaa
open Go.RowKit
set_option linter.unusedVariables false
set_option linter.unusedSimpArgs false
/-- The number with digit k set to x. -/
def setD (Z k x : Nat) : Nat := Z - dg Z k * 65536 ^ k + x * 65536 ^ k
theorem dg_le_num (Z k : Nat) : dg Z k * 65536 ^ k ≤ Z := by
  have h1 : dg Z k ≤ Z / 65536 ^ k := Nat.mod_le _ _
  exact Nat.le_trans (Nat.mul_le_mul_right _ h1) (Nat.div_mul_le_self _ _)
theorem dg_split (Z k : Nat) : Z = Z / 65536 ^ (k + 1) * (65536 * 65536 ^ k) + dg Z k * 65536 ^ k + Z % 65536 ^ k := by
  have h1 := Nat.div_add_mod Z (65536 ^ (k + 1))
  have h2 := mod_next Z k
  rw [h2, Nat.pow_succ, Nat.mul_comm (65536 ^ k) 65536, Nat.mul_comm (65536 * 65536 ^ k), Nat.mul_comm (65536 ^ k) (dg Z k)] at h1
  rw [Nat.pow_succ, Nat.mul_comm (65536 ^ k) 65536]
  omega
theorem setD_split (Z k x : Nat) : setD Z k x = Z / 65536 ^ (k + 1) * (65536 * 65536 ^ k) + x * 65536 ^ k + Z % 65536 ^ k := by
  have h := dg_split Z k
  unfold setD
  generalize Z / 65536 ^ (k + 1) * (65536 * 65536 ^ k) = a at *
  generalize dg Z k * 65536 ^ k = b at *
  generalize Z % 65536 ^ k = c at *
  omega
theorem dg_setD (Z k x j : Nat) (hx : x < 65536) : dg (setD Z k x) j = if j = k then x else dg Z j := by
  have hp := pow_pos' k
  have hl := Nat.mod_lt Z hp
  rcases Nat.lt_trichotomy j k with h | h | h
  · rw [if_neg (by omega)]
    have e1 : ∀ y : Nat, dg (y * 65536 ^ k + Z % 65536 ^ k) j = dg (Z % 65536 ^ k) j := by
      intro y
      unfold dg
      rw [show (65536 : Nat) ^ k = 65536 ^ (k - j - 1) * 65536 * 65536 ^ j by rw [← Nat.pow_succ, ← Nat.pow_add]; congr 1; omega, ← Nat.mul_assoc,
        Nat.add_comm, Nat.add_mul_div_right _ _ (pow_pos' j), ← Nat.mul_assoc, Nat.add_mul_mod_self_right]
    rw [setD_split, show Z / 65536 ^ (k + 1) * (65536 * 65536 ^ k) + x * 65536 ^ k = (Z / 65536 ^ (k + 1) * 65536 + x) * 65536 ^ k by rw [Nat.add_mul, Nat.mul_assoc], e1]
    have h2 := dg_split Z k
    rw [show Z / 65536 ^ (k + 1) * (65536 * 65536 ^ k) + dg Z k * 65536 ^ k = (Z / 65536 ^ (k + 1) * 65536 + dg Z k) * 65536 ^ k by rw [Nat.add_mul, Nat.mul_assoc]] at h2
    have h3 := e1 (Z / 65536 ^ (k + 1) * 65536 + dg Z k)
    rw [← h2] at h3
    exact h3.symm
  · subst h
    rw [if_pos rfl, setD_split]
    unfold dg
    rw [show Z / 65536 ^ (j + 1) * (65536 * 65536 ^ j) + x * 65536 ^ j = (Z / 65536 ^ (j + 1) * 65536 + x) * 65536 ^ j by rw [Nat.add_mul, Nat.mul_assoc],
      Nat.add_comm, Nat.add_mul_div_right _ _ hp, Nat.div_eq_of_lt hl]
    omega
  · rw [if_neg (by omega), setD_split]
    have e : ∀ y, y < 65536 → dg (Z / 65536 ^ (k + 1) * (65536 * 65536 ^ k) + y * 65536 ^ k + Z % 65536 ^ k) j = dg (Z / 65536 ^ (k + 1)) (j - (k + 1)) := by
      intro y hy
      have hlt : y * 65536 ^ k + Z % 65536 ^ k < 65536 ^ (k + 1) := by
        have h1 : (y + 1) * 65536 ^ k ≤ 65536 * 65536 ^ k := Nat.mul_le_mul_right _ hy
        rw [Nat.pow_succ, Nat.mul_comm (65536 ^ k) 65536]
        rw [Nat.add_mul] at h1
        omega
      unfold dg
      rw [show (65536 : Nat) ^ j = 65536 ^ (k + 1) * 65536 ^ (j - (k + 1)) by rw [← Nat.pow_add]; congr 1; omega, ← Nat.div_div_eq_div_mul, Nat.add_assoc,
        show 65536 * 65536 ^ k = 65536 ^ (k + 1) by rw [Nat.pow_succ, Nat.mul_comm], Nat.add_comm, Nat.add_mul_div_right _ _ (pow_pos' (k + 1)), Nat.div_eq_of_lt hlt, Nat.zero_add]
    have h2 := dg_split Z k
    rw [e x hx]
    have h3 := e (dg Z k) (dg_lt Z k)
    rw [← h2] at h3
    exact h3.symm
/-- One step of the product: digit k and the carry. -/
theorem setD_step (Z k c t V : Nat) (h : Z + c * 65536 ^ k = V) :
    setD Z k ((dg Z k + t + c) % 65536) + (dg Z k + t + c) / 65536 * 65536 ^ (k + 1) = V + t * 65536 ^ k := by
  have hd := dg_le_num Z k
  unfold setD
  have e := Nat.div_add_mod (dg Z k + t + c) 65536
  have e2 : (dg Z k + t + c) / 65536 * 65536 ^ (k + 1) + (dg Z k + t + c) % 65536 * 65536 ^ k = dg Z k * 65536 ^ k + t * 65536 ^ k + c * 65536 ^ k := by
    rw [Nat.pow_succ, Nat.mul_comm (65536 ^ k) 65536, ← Nat.mul_assoc, ← Nat.add_mul, Nat.mul_comm ((dg Z k + t + c) / 65536), e, Nat.add_mul, Nat.add_mul]
  generalize (dg Z k + t + c) / 65536 * 65536 ^ (k + 1) = a at *
  generalize (dg Z k + t + c) % 65536 * 65536 ^ k = b at *
  generalize dg Z k * 65536 ^ k = d at *
  generalize t * 65536 ^ k = f at *
  omega
theorem row_next (m n i j Z c : Nat) (h : Z + c * 65536 ^ (i + j) = m % 65536 ^ i * n + dg m i * (n % 65536 ^ j) * 65536 ^ i) :
    setD Z (i + j) ((dg Z (i + j) + dg m i * dg n j + c) % 65536) + (dg Z (i + j) + dg m i * dg n j + c) / 65536 * 65536 ^ (i + (j + 1)) = m % 65536 ^ i * n + dg m i * (n % 65536 ^ (j + 1)) * 65536 ^ i := by
  rw [show i + (j + 1) = (i + j) + 1 by omega, setD_step Z (i + j) c (dg m i * dg n j) _ h, mod_next n j, Nat.mul_add, Nat.add_mul, Nat.pow_add]
  have e : dg m i * dg n j * (65536 ^ i * 65536 ^ j) = dg m i * (65536 ^ j * dg n j) * 65536 ^ i := by
    rw [Nat.mul_assoc, Nat.mul_assoc, Nat.mul_left_comm (dg n j), Nat.mul_comm (dg n j), Nat.mul_comm (65536 ^ i)]
  omega
theorem row_done (m n i : Nat) (hn : n < 65536 ^ 8) : m % 65536 ^ i * n + dg m i * (n % 65536 ^ 8) * 65536 ^ i = m % 65536 ^ (i + 1) * n := by
  rw [Nat.mod_eq_of_lt hn, mod_next, Nat.add_mul, Nat.mul_comm (65536 ^ i) (dg m i), Nat.mul_assoc (dg m i), Nat.mul_assoc (dg m i), Nat.mul_comm n]
  omega
theorem prod16 (m n i : Nat) (hm : m < 65536 ^ 8) (hn : n < 65536 ^ 8) : m % 65536 ^ i * n < 65536 ^ 16 := by
  have h1 : m % 65536 ^ i ≤ m := Nat.mod_le _ _
  have h2 : m % 65536 ^ i * n < 65536 ^ 8 * 65536 ^ 8 := by
    rcases Nat.eq_zero_or_pos n with h | h
    · subst h; simp
    · exact Nat.lt_of_lt_of_le (Nat.mul_lt_mul_of_pos_right (Nat.lt_of_le_of_lt h1 hm) h) (Nat.mul_le_mul_left _ (Nat.le_of_lt hn))
  rw [← Nat.pow_add] at h2
  exact h2
theorem carry_small (d t c : Nat) (hd : d < 65536) (ht : t ≤ 65535 * 65535) (hc : c < 65536) : (d + t + c) / 65536 < 65536 := by omega
end Go.Proofs.Ytedmbebieijofaa
