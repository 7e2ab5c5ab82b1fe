/-
  The plain law of the check sum: four bits at a time is bit by bit. No program in sight.
-/
import Derived.Test.YtjomgppbialeoaaDoorVarP
namespace Go.Proofs.YtjomgppbialeoaaDoor
open Go.RowKit
set_option linter.unusedVariables false
set_option linter.unusedSimpArgs false
def crcPoly : Nat := 3988292384
def cbit (c : Nat) : Nat := c / 2 ^^^ (c % 2) * crcPoly
def cbits : Nat → Nat → Nat
  | 0, c => c
  | n + 1, c => cbits n (cbit c)
/-- The register behind one more byte: bit by bit. -/
def ctake (c x : Nat) : Nat := cbits 8 (c ^^^ x)
def nibs : List Nat := [0, 498536548, 997073096, 651767980, 1994146192, 1802195444, 1303535960, 1342533948, 3988292384, 4027552580, 3604390888, 3412177804, 2607071920, 2262029012, 2685067896, 3183342108]
def cnib (c : Nat) : Nat := c / 16 ^^^ nibs.getD (c % 16) 0
theorem cbits_add (m n c : Nat) : cbits (m + n) c = cbits n (cbits m c) := by
  induction m generalizing c with
  | zero => rw [Nat.zero_add]; rfl
  | succ m ih => rw [show m + 1 + n = m + n + 1 by omega]; exact ih (cbit c)
theorem mulp (b : Nat) (h : b < 2) (b' : Nat) (h' : b' < 2) : ((b ^^^ b') * crcPoly) = (b * crcPoly) ^^^ (b' * crcPoly) := by
  have h1 : b = 0 ∨ b = 1 := by omega
  have h2 : b' = 0 ∨ b' = 1 := by omega
  rcases h1 with rfl | rfl <;> rcases h2 with rfl | rfl <;> decide
theorem cbit_xor (a b : Nat) : cbit (a ^^^ b) = cbit a ^^^ cbit b := by
  unfold cbit
  have h1 : (a ^^^ b) / 2 = a / 2 ^^^ b / 2 := by
    apply Nat.eq_of_testBit_eq
    intro i
    simp only [Nat.testBit_xor, Nat.testBit_div_two]
  have h2 : (a ^^^ b) % 2 = (a % 2) ^^^ (b % 2) := by
    have := Nat.xor_mod_two_pow (a := a) (b := b) (n := 1)
    simpa using this
  rw [h1, h2, mulp _ (by omega) _ (by omega)]
  rw [Nat.xor_assoc, Nat.xor_assoc]
  congr 1
  rw [← Nat.xor_assoc, Nat.xor_comm (b / 2), Nat.xor_assoc]
theorem cbits_xor (n a b : Nat) : cbits n (a ^^^ b) = cbits n a ^^^ cbits n b := by
  induction n generalizing a b with
  | zero => rfl
  | succ n ih => show cbits n (cbit (a ^^^ b)) = cbits n (cbit a) ^^^ cbits n (cbit b); rw [cbit_xor, ih]
theorem cbits_high (n h : Nat) : cbits n (2 ^ n * h) = h := by
  induction n with
  | zero => show 2 ^ 0 * h = h; omega
  | succ n ih =>
    show cbits n (cbit (2 ^ (n + 1) * h)) = h
    have : cbit (2 ^ (n + 1) * h) = 2 ^ n * h := by
      unfold cbit
      have e : 2 ^ (n + 1) * h = 2 * (2 ^ n * h) := by rw [Nat.pow_succ, Nat.mul_comm (2 ^ n) 2, Nat.mul_assoc]
      rw [e, Nat.mul_div_cancel_left _ (by decide), Nat.mul_mod_right, Nat.zero_mul, Nat.xor_zero]
    rw [this, ih]
theorem cnib_eq (c : Nat) : cnib c = cbits 4 c := by
  have hsplit : c = 2 ^ 4 * (c / 16) ^^^ (c % 16) := by
    have h := Nat.two_pow_add_eq_or_of_lt (i := 4) (b := c % 16) (by omega) (c / 16)
    have h2 : 2 ^ 4 * (c / 16) + c % 16 = c := by omega
    have h3 : 2 ^ 4 * (c / 16) &&& c % 16 = 0 := by
      apply Nat.eq_of_testBit_eq
      intro i
      rw [Nat.testBit_and, Nat.zero_testBit]
      by_cases hi : i < 4
      · rw [Nat.testBit_two_pow_mul]; simp; omega
      · have : (c % 16).testBit i = false := Nat.testBit_lt_two_pow (Nat.lt_of_lt_of_le (Nat.mod_lt _ (by decide)) (Nat.pow_le_pow_right (show 0 < 2 by decide) (show 4 ≤ i by omega)))
        rw [this, Bool.and_false]
    have h4 : 2 ^ 4 * (c / 16) ^^^ c % 16 = 2 ^ 4 * (c / 16) ||| c % 16 := by
      apply Nat.eq_of_testBit_eq
      intro i
      have h5 := congrArg (fun n => n.testBit i) h3
      simp only [Nat.testBit_and, Nat.zero_testBit] at h5
      rw [Nat.testBit_xor, Nat.testBit_or]
      revert h5
      generalize (2 ^ 4 * (c / 16)).testBit i = p
      generalize (c % 16).testBit i = q
      cases p <;> cases q <;> decide
    rw [h4, ← h, h2]
  have hl : cbits 4 (c % 16) = nibs.getD (c % 16) 0 := by
    have : ∀ k, k < 16 → cbits 4 k = nibs.getD k 0 := by decide
    exact this _ (Nat.mod_lt _ (by decide))
  conv => rhs; rw [hsplit]
  rw [cbits_xor, cbits_high, hl]
  rfl
theorem ctake_nib (c x : Nat) : ctake c x = cnib (cnib (c ^^^ x)) := by
  rw [cnib_eq, cnib_eq]
  exact cbits_add 4 4 _
theorem cbit_lt {c : Nat} (h : c < 4294967296) : cbit c < 4294967296 := by
  unfold cbit
  have h1 : c / 2 < 2 ^ 32 := by omega
  have h2 : (c % 2) * crcPoly < 2 ^ 32 := by
    have : c % 2 = 0 ∨ c % 2 = 1 := by omega
    rcases this with h | h <;> rw [h] <;> decide
  exact Nat.xor_lt_two_pow h1 h2
theorem cbits_lt {c : Nat} (n : Nat) (h : c < 4294967296) : cbits n c < 4294967296 := by
  induction n generalizing c with
  | zero => exact h
  | succ n ih => exact ih (cbit_lt h)
theorem ctake_lt {c x : Nat} (h : c < 4294967296) (hx : x < 256) : ctake c x < 4294967296 :=
  cbits_lt 8 (Nat.xor_lt_two_pow (n := 32) h (by omega))
/-- The register behind bytes. -/
def creg (c : Nat) (b : List UInt8) : Nat := b.foldl (fun c x => ctake c x.toNat) c
theorem creg_lt {c : Nat} (b : List UInt8) (h : c < 4294967296) : creg c b < 4294967296 := by
  unfold creg
  induction b generalizing c with
  | nil => exact h
  | cons x r ih => exact ih (ctake_lt h (by have := x.toNat_lt; omega))
theorem creg_snoc (c : Nat) (b : List UInt8) (x : UInt8) : creg c (b ++ [x]) = ctake (creg c b) x.toNat := by unfold creg; rw [List.foldl_append]; rfl
/-- The check sum. -/
def csum (b : List UInt8) : Nat := 4294967295 - creg 4294967295 b
theorem csum_lt (b : List UInt8) : csum b < 4294967296 := by unfold csum; omega
/-- A sum as it is laid in files. -/
def four (s : Nat) : List UInt8 := [UInt8.ofNat (s % 256), UInt8.ofNat (s / 256 % 256), UInt8.ofNat (s / 65536 % 256), UInt8.ofNat (s / 16777216 % 256)]
theorem four_len (s : Nat) : (four s).length = 4 := rfl
theorem four_inj {s t : Nat} (hs : s < 4294967296) (ht : t < 4294967296) (h : four s = four t) : s = t := by
  unfold four at h
  simp only [List.cons.injEq, and_true] at h
  obtain ⟨h1, h2, h3, h4⟩ := h
  have e : ∀ a b : Nat, a < 256 → b < 256 → UInt8.ofNat a = UInt8.ofNat b → a = b := fun a b ha hb h => by
    have := congrArg UInt8.toNat h
    rw [UInt8.toNat_ofNat', UInt8.toNat_ofNat'] at this
    omega
  have g1 := e _ _ (by omega) (by omega) h1
  have g2 := e _ _ (by omega) (by omega) h2
  have g3 := e _ _ (by omega) (by omega) h3
  have g4 := e _ _ (by omega) (by omega) h4
  omega
end Go.Proofs.YtjomgppbialeoaaDoor
