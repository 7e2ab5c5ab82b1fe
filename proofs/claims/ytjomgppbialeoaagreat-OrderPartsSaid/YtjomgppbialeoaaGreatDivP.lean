/-
  Plain laws of a division of 128 bits by 64, two digits of 32 bits. No program is walked here.
-/
import Derived.Test.YtjomgppbialeoaaGreatLongP
import Derived.Lib.BitFns
import Derived.Laws.BitsAllLaws
import Derived.Laws.MathBits
namespace Go.Proofs.YtjomgppbialeoaaGreat
open Go.RowKit
set_option linter.unusedVariables false
set_option linter.unusedSimpArgs false
/-- What a guess of a digit comes to: 'a' the high part, 'c' the next half, 'y' the divisor, halves y1, y0. -/
structure Guess (a c y y1 y0 q r : Nat) : Prop where
  eq : q * y1 + r = a
  ge : (a * 4294967296 + c) / y ≤ q
  rlt : r < 4294967296
theorem aux_le (p a c s : Nat) (h : p * 4294967296 + s ≤ a * 4294967296 + c) (hc : c < 4294967296) : p ≤ a := by omega
theorem guess_first {a c y y1 y0 : Nat} (hy : y = y1 * 4294967296 + y0) (hy0 : y0 < 4294967296) (hn : 9223372036854775808 ≤ y) (hylt : y < 18446744073709551616) (hc : c < 4294967296) : Guess a c y y1 y0 (a / y1) (a % y1) := by
  have h1 : 2147483648 ≤ y1 := by omega
  refine ⟨by rw [Nat.mul_comm]; exact Nat.div_add_mod a y1, ?_, by have := Nat.mod_lt a (show 0 < y1 by omega); omega⟩
  rw [Nat.le_div_iff_mul_le (by omega)]
  have h2 := Nat.div_mul_le_self (a * 4294967296 + c) y
  generalize (a * 4294967296 + c) / y = q at *
  subst hy
  rw [Nat.mul_add, ← Nat.mul_assoc] at h2
  exact aux_le _ a c (q * y0) h2 hc
theorem guess_lt {a c y : Nat} (ha : a < y) (hc : c < 4294967296) : (a * 4294967296 + c) / y < 4294967296 := by
  rw [Nat.div_lt_iff_lt_mul (by omega)]
  have : (a + 1) * 4294967296 ≤ y * 4294967296 := Nat.mul_le_mul_right _ ha
  omega
theorem guess_hi {a c y y1 y0 q r : Nat} (g : Guess a c y y1 y0 q r) (hy : y = y1 * 4294967296 + y0) (ha : a < y) (hc : c < 4294967296) (h : 4294967296 ≤ q) : (a * 4294967296 + c) / y < q := by
  have := guess_lt ha hc
  omega
theorem guess_more {a c y y1 y0 q r : Nat} (g : Guess a c y y1 y0 q r) (hy : y = y1 * 4294967296 + y0) (hpos : 0 < y) (h : 4294967296 * r + c < q * y0) : (a * 4294967296 + c) / y < q := by
  rw [Nat.div_lt_iff_lt_mul hpos]
  have e := g.eq
  subst hy
  rw [Nat.mul_add, ← Nat.mul_assoc]
  generalize q * y1 = p at *
  omega
theorem guess_done {a c y y1 y0 q r : Nat} (g : Guess a c y y1 y0 q r) (hy : y = y1 * 4294967296 + y0) (hpos : 0 < y) (h : q * y0 ≤ 4294967296 * r + c) : q = (a * 4294967296 + c) / y := by
  refine Nat.le_antisymm ?_ g.ge
  rw [Nat.le_div_iff_mul_le hpos]
  have e := g.eq
  subst hy
  rw [Nat.mul_add, ← Nat.mul_assoc]
  generalize q * y1 = p at *
  omega
/-- One lower: the guess that goes on, or is done. -/
theorem guess_next {a c y y1 y0 q r : Nat} (g : Guess a c y y1 y0 q r) (h : (a * 4294967296 + c) / y < q) : (q - 1) * y1 + (r + y1) = a ∧ (a * 4294967296 + c) / y ≤ q - 1 ∧ 1 ≤ q := by
  have e := g.eq
  have hq0 : 0 < q := Nat.lt_of_le_of_lt (Nat.zero_le _) h
  obtain ⟨q, rfl⟩ : ∃ p, q = p + 1 := ⟨q - 1, by omega⟩
  refine ⟨?_, by omega, by omega⟩
  rw [Nat.add_mul, Nat.one_mul] at e
  simp only [Nat.add_sub_cancel]
  omega
theorem guess_over {a c y y1 y0 q r : Nat} (he : q * y1 + r = a) (hge : (a * 4294967296 + c) / y ≤ q) (hy : y = y1 * 4294967296 + y0) (hy0 : y0 < 4294967296) (ha : a < y) (hpos : 0 < y) (h : 4294967296 ≤ r) : q = (a * 4294967296 + c) / y := by
  refine Nat.le_antisymm ?_ hge
  rw [Nat.le_div_iff_mul_le hpos]
  have hq : q < 4294967296 := by
    rcases Nat.lt_or_ge q 4294967296 with h1 | h1
    · exact h1
    · have : 4294967296 * y1 ≤ q * y1 := Nat.mul_le_mul_right _ h1
      omega
  have hp : q * y0 ≤ 4294967296 * 4294967296 := Nat.mul_le_mul (Nat.le_of_lt hq) (Nat.le_of_lt hy0)
  subst hy
  rw [Nat.mul_add, ← Nat.mul_assoc]
  generalize q * y1 = p at *
  omega
theorem q_bd {a y1 q r : Nat} (he : q * y1 + r = a) (h1 : 2147483648 ≤ y1) (ha : a < 18446744073709551616) : q < 8589934592 := by
  rcases Nat.lt_or_ge q 8589934592 with h | h
  · exact h
  · have : 8589934592 * 2147483648 ≤ q * y1 := Nat.mul_le_mul h h1
    omega
theorem qy0_bd {q y0 : Nat} (h : q < 4294967296) (h0 : y0 < 4294967296) : q * y0 ≤ 18446744065119617025 := by
  have : q * y0 ≤ 4294967295 * 4294967295 := Nat.mul_le_mul (by omega) (by omega)
  omega
/-- A digit times the divisor, as 64 bits hold it: what is left behind it. -/
theorem rest_wrap (a c y : Nat) (ha : a < y) (hy : y < 18446744073709551616) (hc : c < 4294967296) :
    ((a : Int) * 4294967296 % 18446744073709551616 + c) % 18446744073709551616 = ((a : Int) * 4294967296 + c) % 18446744073709551616 := by omega
theorem rest_eq (N q y : Nat) (hq : q = N / y) (hpos : 0 < y) (hy : y < 18446744073709551616) : (((N : Int) % 18446744073709551616) - ((q : Int) * y % 18446744073709551616)) % 18446744073709551616 = ((N % y : Nat) : Int) := by
  have h := Nat.div_add_mod N y
  have hl := Nat.mod_lt N hpos
  rw [← hq, Nat.mul_comm] at h
  have hc : ((q : Int) * y) = ((q * y : Nat) : Int) := by simp
  rw [hc]
  generalize q * y = p at *
  omega
theorem aux_two (u c0 c1 t r : Nat) (h : t + r = u * 4294967296 + c1) : u * 18446744073709551616 + (c1 * 4294967296 + c0) = (r * 4294967296 + c0) + t * 4294967296 := by omega
/-- The two digits together. -/
theorem two_digits (u c0 c1 y : Nat) (hpos : 0 < y) :
    (u * 18446744073709551616 + (c1 * 4294967296 + c0)) / y = (u * 4294967296 + c1) / y * 4294967296 + ((u * 4294967296 + c1) % y * 4294967296 + c0) / y ∧
    (u * 18446744073709551616 + (c1 * 4294967296 + c0)) % y = ((u * 4294967296 + c1) % y * 4294967296 + c0) % y := by
  have h := Nat.div_add_mod (u * 4294967296 + c1) y
  rw [aux_two u c0 c1 _ _ h, Nat.mul_assoc, Nat.add_mul_div_left _ _ hpos, Nat.add_mul_mod_self_left]
  exact ⟨Nat.add_comm _ _, rfl⟩
theorem bitLenAux_spec : ∀ (f x : Nat), x ≠ 0 → x < 2 ^ f → 1 ≤ Lib.bitLenAux f x ∧ 2 ^ (Lib.bitLenAux f x - 1) ≤ x ∧ x < 2 ^ Lib.bitLenAux f x := by
  intro f
  induction f with
  | zero => intro x h0 h; simp at h; omega
  | succ f ih =>
    intro x h0 h
    unfold Lib.bitLenAux
    rw [if_neg h0]
    by_cases h1 : x / 2 = 0
    · have hx : x = 1 := by omega
      subst hx
      have : Lib.bitLenAux f (1 / 2) = 0 := by cases f <;> simp [Lib.bitLenAux]
      rw [this]; decide
    · obtain ⟨k1, k2, k3⟩ := ih (x / 2) h1 (by rw [Nat.pow_succ] at h; omega)
      generalize Lib.bitLenAux f (x / 2) = b at *
      obtain ⟨b, rfl⟩ : ∃ c, b = c + 1 := ⟨b - 1, by omega⟩
      refine ⟨by omega, ?_, ?_⟩
      · rw [show 1 + (b + 1) - 1 = b + 1 by omega, Nat.pow_succ]
        simp only [Nat.add_sub_cancel] at k2
        omega
      · rw [show 1 + (b + 1) = (b + 1) + 1 by omega, Nat.pow_succ]
        omega
/-- How far a divisor is shifted so that its highest bit is set. -/
theorem norm_spec (y : Nat) (h0 : 0 < y) (hy : y < 18446744073709551616) : ∃ s, s ≤ 63 ∧ Lib.bitLen y = 64 - s ∧ 9223372036854775808 ≤ y * 2 ^ s ∧ y * 2 ^ s < 18446744073709551616 := by
  obtain ⟨k1, k2, k3⟩ := bitLenAux_spec 64 y (by omega) hy
  have k4 : Lib.bitLen y ≤ 64 := Lib.bitLen_le y 64 (Nat.le_refl _) hy
  unfold Lib.bitLen at *
  generalize Lib.bitLenAux 64 y = b at *
  refine ⟨64 - b, by omega, by omega, ?_, ?_⟩
  · have h := Nat.mul_le_mul_right (2 ^ (64 - b)) k2
    rw [← Nat.pow_add, show b - 1 + (64 - b) = 63 by omega] at h
    exact h
  · have h := Nat.mul_lt_mul_of_pos_right k3 (Nat.pow_pos (n := 64 - b) (by decide : 0 < 2))
    rw [← Nat.pow_add, show b + (64 - b) = 64 by omega] at h
    exact h
theorem or_shift (hi lo s : Nat) (hs : s ≤ 63) (hh : hi * 2 ^ s < 18446744073709551616) (hlo : lo < 18446744073709551616) :
    bits .or .u64 (IntKind.u64.wrap ((hi : Int) * 2 ^ s)) ((lo : Int) / 2 ^ (64 - s)) = ((hi * 2 ^ s + lo / 2 ^ (64 - s) : Nat) : Int) := by
  have e1 : IntKind.u64.wrap ((hi : Int) * 2 ^ s) = ((hi * 2 ^ s : Nat) : Int) := by
    rw [show ((hi : Int) * 2 ^ s) = ((hi * 2 ^ s : Nat) : Int) by simp, IntKind.wrap_u64]; omega
  have e2 : ((lo : Int) / 2 ^ (64 - s)) = ((lo / 2 ^ (64 - s) : Nat) : Int) := by simp
  have hl : lo / 2 ^ (64 - s) < 2 ^ s := by
    rw [Nat.div_lt_iff_lt_mul (Nat.pow_pos (by decide)), ← Nat.pow_add, show s + (64 - s) = 64 by omega]
    exact hlo
  have hl2 : lo / 2 ^ (64 - s) < 18446744073709551616 := Nat.lt_of_le_of_lt (Nat.div_le_self _ _) hlo
  rw [e1, e2, u64_or_nat _ _ hh hl2, Nat.mul_comm hi, Nat.two_pow_add_eq_or_of_lt hl]
theorem shift_split (hi lo s : Nat) (hs : s ≤ 63) : (hi * 18446744073709551616 + lo) * 2 ^ s = (hi * 2 ^ s + lo / 2 ^ (64 - s)) * 18446744073709551616 + lo * 2 ^ s % 18446744073709551616 := by
  have e : lo * 2 ^ s / 18446744073709551616 = lo / 2 ^ (64 - s) := by
    rw [show (18446744073709551616 : Nat) = 2 ^ (64 - s) * 2 ^ s by rw [← Nat.pow_add, show 64 - s + s = 64 by omega]]
    exact Nat.mul_div_mul_right _ _ (Nat.pow_pos (by decide))
  have h := Nat.div_add_mod (lo * 2 ^ s) 18446744073709551616
  rw [e] at h
  rw [Nat.add_mul, Nat.mul_right_comm]
  generalize hi * 2 ^ s = a at *
  generalize lo * 2 ^ s = b at *
  omega
theorem shift_lt (hi lo y s A L : Nat) (h1 : hi < y) (hlo : lo < 18446744073709551616) (he : (hi * 18446744073709551616 + lo) * 2 ^ s = A * 18446744073709551616 + L) : A < y * 2 ^ s := by
  have h2 : (hi * 18446744073709551616 + lo) * 2 ^ s < (y * 18446744073709551616) * 2 ^ s := Nat.mul_lt_mul_of_pos_right (by omega) (Nat.pow_pos (by decide))
  rw [he, Nat.mul_right_comm] at h2
  generalize y * 2 ^ s = Y at *
  omega
/-- All of the division: the digits of the shifted numbers give the quotient and the rest. -/
theorem div_all (N y s A L c1 c0 : Nat) (hy : 0 < y) (he : N * 2 ^ s = A * 18446744073709551616 + L) (hL : L = c1 * 4294967296 + c0) :
    N / y = (A * 4294967296 + c1) / (y * 2 ^ s) * 4294967296 + ((A * 4294967296 + c1) % (y * 2 ^ s) * 4294967296 + c0) / (y * 2 ^ s) ∧
    (N % y) * 2 ^ s = ((A * 4294967296 + c1) % (y * 2 ^ s) * 4294967296 + c0) % (y * 2 ^ s) := by
  have hp : 0 < 2 ^ s := Nat.pow_pos (by decide)
  obtain ⟨h1, h2⟩ := two_digits A c0 c1 (y * 2 ^ s) (Nat.mul_pos hy hp)
  rw [← hL, ← he] at h1 h2
  rw [Nat.mul_div_mul_right _ _ hp] at h1
  rw [Nat.mul_mod_mul_right] at h2
  exact ⟨h1, h2⟩
end Go.Proofs.YtjomgppbialeoaaGreat
