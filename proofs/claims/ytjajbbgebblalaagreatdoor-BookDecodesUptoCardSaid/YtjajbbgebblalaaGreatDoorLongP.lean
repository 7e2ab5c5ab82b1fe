/-
  Plain laws of long numbers (sixteen digits to the base 65536). No program is walked here.
-/
/-
  Plain laws: sums of long numbers with their signs. No program is walked here.
-/
/-
  Long numbers as cells: the sign and sixteen digits.
-/
/-
  Plain laws of the long product: one digit set, the carry carried on. No program is walked here.
-/
/-
  Plain laws of the long division, bit by bit. No program is walked here.
-/
/-
  Plain laws of a division of 128 bits by 64, two digits of 32 bits. No program is walked here.
-/
import Derived.Test.YtjajbbgebblalaaGreatDoorBase
import Derived.Lib.BitFns
import Derived.Laws.BitsAllLaws
import Derived.Laws.MathBits
namespace Go.Proofs.YtjajbbgebblalaaGreatDoor
open Go.RowKit
set_option linter.unusedVariables false
set_option linter.unusedSimpArgs false
/-- Digit i of n to the base 65536. -/
def dg (n : Nat) (i : Nat) : Nat := n / 65536 ^ i % 65536
theorem dg_lt (n i : Nat) : dg n i < 65536 := Nat.mod_lt _ (by decide)
theorem pow_pos' (i : Nat) : 0 < 65536 ^ i := Nat.pow_pos (by decide)
/-- The carry into digit i of a sum. -/
def carry (m n i : Nat) : Nat := (m % 65536 ^ i + n % 65536 ^ i) / 65536 ^ i
theorem carry_le (m n i : Nat) : carry m n i ≤ 1 := by
  have h1 := Nat.mod_lt m (pow_pos' i)
  have h2 := Nat.mod_lt n (pow_pos' i)
  unfold carry
  generalize 65536 ^ i = p at *
  have : (m % p + n % p) / p < 2 := (Nat.div_lt_iff_lt_mul (by omega)).2 (by omega)
  omega
theorem split_sum (m n p : Nat) (hp : 0 < p) : (m + n) / p = m / p + n / p + (m % p + n % p) / p := by
  have h1 := Nat.div_add_mod m p
  have h2 := Nat.div_add_mod n p
  generalize m / p = a at *
  generalize n / p = b at *
  generalize m % p = c at *
  generalize n % p = d at *
  rw [← h1, ← h2, show p * a + c + (p * b + d) = (c + d) + p * (a + b) by rw [Nat.mul_add]; omega, Nat.add_mul_div_left _ _ hp]
  omega
theorem dg_add (m n i : Nat) : dg (m + n) i = (dg m i + dg n i + carry m n i) % 65536 := by
  unfold dg carry
  rw [split_sum m n _ (pow_pos' i)]
  omega
theorem mod_next (m i : Nat) : m % 65536 ^ (i + 1) = 65536 ^ i * dg m i + m % 65536 ^ i := by
  unfold dg
  rw [Nat.pow_succ, Nat.mod_mul, Nat.add_comm]
theorem carry_next (m n i : Nat) : carry m n (i + 1) = (dg m i + dg n i + carry m n i) / 65536 := by
  unfold carry
  rw [mod_next, mod_next]
  have hp := pow_pos' i
  rw [Nat.pow_succ, ← Nat.div_div_eq_div_mul]
  generalize 65536 ^ i = p at *
  generalize dg m i = d
  generalize dg n i = e
  rw [show p * d + m % p + (p * e + n % p) = (m % p + n % p) + p * (d + e) by rw [Nat.mul_add]; omega, Nat.add_mul_div_left _ _ hp]
  congr 1
  omega
theorem carry_zero (m n : Nat) : carry m n 0 = 0 := by simp [carry, Nat.mod_one]
/-- The borrow out of digit i of a difference. -/
def borrow (m n i : Nat) : Nat := if m % 65536 ^ i < n % 65536 ^ i then 1 else 0
theorem borrow_le (m n i : Nat) : borrow m n i ≤ 1 := by unfold borrow; split <;> omega
theorem borrow_zero (m n : Nat) : borrow m n 0 = 0 := by simp [borrow, Nat.mod_one]
theorem borrow_next (m n i : Nat) : borrow m n (i + 1) = 1 - (dg m i + 65536 - dg n i - borrow m n i) / 65536 := by
  have h1 := dg_lt m i
  have h2 := dg_lt n i
  have h3 := Nat.mod_lt m (pow_pos' i)
  have h4 := Nat.mod_lt n (pow_pos' i)
  unfold borrow
  rw [mod_next, mod_next]
  have hp := pow_pos' i
  generalize 65536 ^ i = p at *
  generalize dg m i = d at *
  generalize dg n i = e at *
  generalize m % p = a at *
  generalize n % p = b at *
  rcases Nat.lt_trichotomy d e with h | h | h
  · have hm : p * d + p ≤ p * e := by rw [← Nat.mul_succ]; exact Nat.mul_le_mul_left p h
    rw [if_pos (by omega)]
    split <;> omega
  · subst h
    by_cases hab : a < b
    · rw [if_pos (by omega), if_pos hab]; omega
    · rw [if_neg (by omega), if_neg hab]; omega
  · have hm : p * e + p ≤ p * d := by rw [← Nat.mul_succ]; exact Nat.mul_le_mul_left p h
    rw [if_neg (by omega)]
    split <;> omega
theorem split_diff (m n p : Nat) (hp : 0 < p) (h : n ≤ m) : (m - n) / p = m / p - n / p - (if m % p < n % p then 1 else 0) ∧ n / p + (if m % p < n % p then 1 else 0) ≤ m / p := by
  have h1 := Nat.div_add_mod m p
  have h2 := Nat.div_add_mod n p
  have h3 := Nat.mod_lt m hp
  have h4 := Nat.mod_lt n hp
  generalize m / p = a at *
  generalize n / p = b at *
  generalize m % p = c at *
  generalize n % p = d at *
  subst h1 h2
  have hab : b ≤ a := by
    rcases Nat.lt_or_ge a b with hlt | hge
    · have : p * a + p ≤ p * b := by rw [← Nat.mul_succ]; exact Nat.mul_le_mul_left p hlt
      omega
    · exact hge
  have e : p * a = p * b + p * (a - b) := by rw [← Nat.mul_add]; congr 1; omega
  split
  · rename_i hcd
    have hlt : b < a := by
      rcases Nat.lt_or_ge b a with hlt | hge
      · exact hlt
      · have : a = b := by omega
        subst this
        omega
    have e2 : p * (a - b) = p + p * (a - b - 1) := by
      rw [← Nat.mul_succ p (a - b - 1) |>.trans (by omega : p * (a - b - 1) + p = p + p * (a - b - 1))]
      congr 1
      omega
    refine ⟨?_, by omega⟩
    rw [show p * a + c - (p * b + d) = (p + c - d) + p * (a - b - 1) by omega, Nat.add_mul_div_left _ _ hp, Nat.div_eq_of_lt (by omega)]
    omega
  · refine ⟨?_, by omega⟩
    rw [show p * a + c - (p * b + d) = (c - d) + p * (a - b) by omega, Nat.add_mul_div_left _ _ hp, Nat.div_eq_of_lt (by omega)]
    omega
theorem dg_sub (m n i : Nat) (h : n ≤ m) : dg (m - n) i = (dg m i + 65536 - dg n i - borrow m n i) % 65536 := by
  obtain ⟨h1, h2⟩ := split_diff m n _ (pow_pos' i) h
  unfold dg borrow
  rw [h1]
  have h3 : (if m % 65536 ^ i < n % 65536 ^ i then 1 else 0 : Nat) ≤ 1 := by split <;> omega
  generalize (if m % 65536 ^ i < n % 65536 ^ i then 1 else 0 : Nat) = q at *
  generalize m / 65536 ^ i = a at *
  generalize n / 65536 ^ i = b at *
  omega
/-- A number of sixteen digits is known by them. -/
theorem val_dg (n k : Nat) : n % 65536 ^ (k + 1) = 65536 ^ k * dg n k + n % 65536 ^ k := mod_next n k
theorem cmp_at (m n k : Nat) (h : m / 65536 ^ (k + 1) = n / 65536 ^ (k + 1)) : (dg m k < dg n k → m < n) ∧ (dg n k < dg m k → n < m) ∧ (dg m k = dg n k → m / 65536 ^ k = n / 65536 ^ k) := by
  have key : ∀ x : Nat, x / 65536 ^ k = 65536 * (x / 65536 ^ (k + 1)) + dg x k := by
    intro x
    unfold dg
    rw [Nat.pow_succ, ← Nat.div_div_eq_div_mul]
    omega
  have hm := key m
  have hn := key n
  rw [h] at hm
  refine ⟨fun hlt => ?_, fun hlt => ?_, fun he => by omega⟩
  · rcases Nat.lt_or_ge m n with h1 | h1
    · exact h1
    · have := Nat.div_le_div_right (c := 65536 ^ k) h1
      omega
  · rcases Nat.lt_or_ge n m with h1 | h1
    · exact h1
    · have := Nat.div_le_div_right (c := 65536 ^ k) h1
      omega
/-- Whether a number fits 64 bits with a sign; the number, if it does. -/
def fits64 (s : Int) : Bool := decide (-9223372036854775808 ≤ s ∧ s ≤ 9223372036854775807)
def nf (s : Int) : Int := if fits64 s then s else 0
/-- The number of a sign and a size. -/
def sg (b : Bool) (n : Nat) : Int := if b then -(n : Int) else n
theorem dg_big (n j : Nat) (hj : 4 ≤ j) (h : dg n j ≠ 0) : 18446744073709551616 ≤ n := by
  rcases Nat.lt_or_ge n 18446744073709551616 with hlt | hge
  · exfalso
    apply h
    unfold dg
    have : 65536 ^ 4 ≤ 65536 ^ j := Nat.pow_le_pow_right (by decide) hj
    rw [Nat.div_eq_of_lt (by omega)]
  · exact hge
theorem dg_small (n : Nat) (hn : n < 65536 ^ 16) (h : ∀ j, 4 ≤ j → j < 16 → dg n j = 0) : n < 18446744073709551616 := by
  have key : ∀ k, k ≤ 12 → n % 65536 ^ (4 + k) = n % 65536 ^ 4 := by
    intro k
    induction k with
    | zero => intro _; rfl
    | succ k ih =>
      intro hk
      rw [← Nat.add_assoc, mod_next, h (4 + k) (by omega) (by omega), Nat.mul_zero, Nat.zero_add]
      exact ih (by omega)
  have h12 := key 12 (by omega)
  rw [show 4 + 12 = 16 from rfl, Nat.mod_eq_of_lt hn] at h12
  have := Nat.mod_lt n (pow_pos' 4)
  omega
theorem fits_pos (n : Nat) : fits64 (sg false n) = decide (n ≤ 9223372036854775807) := by
  simp only [fits64, sg, Bool.false_eq_true, if_false, decide_eq_decide]; omega
theorem fits_neg (n : Nat) : fits64 (sg true n) = decide (n ≤ 9223372036854775808) := by
  simp only [fits64, sg, if_true, decide_eq_decide]; omega
theorem fits_big (b : Bool) (n : Nat) (h : 9223372036854775809 ≤ n) : fits64 (sg b n) = false := by
  cases b
  · rw [fits_pos]; simp; omega
  · rw [fits_neg]; simp; omega
end Go.Proofs.YtjajbbgebblalaaGreatDoor

namespace Go.Proofs.YtjajbbgebblalaaGreatDoor
open Go.RowKit
set_option linter.unusedVariables false
set_option linter.unusedSimpArgs false
def plusB (a b : Bool) (m n : Nat) : Bool := if a = b then a else if n ≤ m then a else b
def plusN (a b : Bool) (m n : Nat) : Nat := if a = b then m + n else if n ≤ m then m - n else n - m
theorem sg_plus (a b : Bool) (m n : Nat) : sg (plusB a b m n) (plusN a b m n) = sg a m + sg b n := by
  unfold sg plusB plusN
  by_cases h : n ≤ m <;> cases a <;> cases b <;> simp [h] <;> omega
theorem plusN_le (a b : Bool) (m n : Nat) : plusN a b m n ≤ m + n := by
  unfold plusN; split <;> (try split) <;> omega
/-- |v|. -/
def absN (v : Int) : Nat := v.natAbs
theorem sg_abs (v : Int) : sg (decide (v < 0)) (absN v) = v := by
  unfold sg absN
  by_cases h : v < 0 <;> simp [h] <;> omega
/-- The reference's sum. -/
def addL (p : Bool × Nat) (v : Int) : Bool × Nat := (plusB p.1 (decide (v < 0)) p.2 (absN v), plusN p.1 (decide (v < 0)) p.2 (absN v))
def sumL (l : List Int) : Bool × Nat := l.foldl addL (false, 0)
theorem sumL_snoc (l : List Int) (v : Int) : sumL (l ++ [v]) = addL (sumL l) v := by simp [sumL, List.foldl_append]
theorem sumL_sg (l : List Int) : sg (sumL l).1 (sumL l).2 = l.sum := by
  have h : ∀ (l : List Int) (p : Bool × Nat), sg (l.foldl addL p).1 (l.foldl addL p).2 = sg p.1 p.2 + l.sum := by
    intro l
    induction l with
    | nil => intro p; simp
    | cons v l ih => intro p; rw [List.foldl_cons, ih]; simp only [addL, sg_plus, sg_abs, List.sum_cons]; omega
  have h0 := h l (false, 0)
  rw [show sg false 0 = 0 from rfl, Int.zero_add] at h0
  exact h0
theorem sumL_le (l : List Int) (hl : ∀ v ∈ l, -9223372036854775808 ≤ v ∧ v ≤ 9223372036854775807) : (sumL l).2 ≤ 9223372036854775808 * l.length := by
  have h : ∀ (l : List Int) (p : Bool × Nat), (∀ v ∈ l, -9223372036854775808 ≤ v ∧ v ≤ 9223372036854775807) → (l.foldl addL p).2 ≤ p.2 + 9223372036854775808 * l.length := by
    intro l
    induction l with
    | nil => intro p _; simp
    | cons v l ih =>
      intro p hp
      have h1 := ih (addL p v) (fun x hx => hp x (by simp [hx]))
      have h2 := plusN_le p.1 (decide (v < 0)) p.2 (absN v)
      have h3 := hp v (by simp)
      have h4 : absN v ≤ 9223372036854775808 := by unfold absN; omega
      simp only [List.foldl_cons, List.length_cons]
      have h5 : (addL p v).2 ≤ p.2 + absN v := h2
      omega
  have := h l (false, 0) hl
  simpa [sumL] using this
end Go.Proofs.YtjajbbgebblalaaGreatDoor

namespace Go.Proofs.YtjajbbgebblalaaGreatDoor
open Go.RowKit
set_option linter.unusedVariables false
set_option linter.unusedSimpArgs false
def arrA (b : Bool) (D : Nat → Nat) : Array Value := (Value.bool b :: (List.range 16).map fun j => Value.int .u64 (D j)).toArray
theorem arr_size (b : Bool) (D : Nat → Nat) : (arrA b D).size = 17 := by simp [arrA]
theorem arr_get0 (b : Bool) (D : Nat → Nat) : (arrA b D)[0]? = some (.bool b) := by simp [arrA]
theorem arr_get (b : Bool) (D : Nat → Nat) (i : Nat) (h : i < 16) : (arrA b D)[1 + i]? = some (.int .u64 (D i)) := by
  unfold arrA
  rw [List.getElem?_toArray, Nat.add_comm, List.getElem?_cons_succ]
  simp [h]
theorem arr_ext {b : Bool} {D E : Nat → Nat} (h : ∀ j, j < 16 → D j = E j) : arrA b D = arrA b E := by
  unfold arrA
  congr 2
  apply List.map_congr_left
  intro j hj
  rw [h j (by simpa using hj)]
theorem arr_set (b : Bool) (D : Nat → Nat) (i x : Nat) (h : i < 16) : (arrA b D).setIfInBounds (1 + i) (.int .u64 x) = arrA b (fun j => if j = i then x else D j) := by
  unfold arrA
  rw [List.setIfInBounds_toArray, Nat.add_comm, List.set_cons_succ]
  congr 2
  apply List.ext_getElem
  · simp
  · intro j h1 h2
    simp only [List.getElem_set, List.getElem_map, List.getElem_range]
    by_cases hij : i = j
    · subst hij; simp
    · simp [hij, Ne.symm hij]
theorem arr_set0 (b c : Bool) (D : Nat → Nat) : (arrA b D).setIfInBounds 0 (.bool c) = arrA c D := by
  unfold arrA; simp
theorem arr_one (b : Bool) (D : Nat → Nat) : ∀ v ∈ (arrA b D).toList, v.oneCell' = true := by
  intro v hv
  simp [arrA] at hv
  rcases hv with rfl | ⟨j, _, rfl⟩ <;> rfl
theorem arr_zero (b : Bool) : (#[.bool b, .int .u64 0, .int .u64 0, .int .u64 0, .int .u64 0, .int .u64 0, .int .u64 0, .int .u64 0, .int .u64 0, .int .u64 0, .int .u64 0, .int .u64 0, .int .u64 0, .int .u64 0, .int .u64 0, .int .u64 0, .int .u64 0] : Array Value) = arrA b (fun _ => 0) := rfl
/-- A long number: its sign, the digits of n. -/
abbrev longV (b : Bool) (n : Nat) : Value := .agg (arrA b (dg n))
/-- The first k digits, then none. -/
def upto (n k j : Nat) : Nat := if j < k then dg n j else 0
theorem upto_next (b : Bool) (n k : Nat) : arrA b (fun j => if j = k then dg n k else upto n k j) = arrA b (upto n (k + 1)) := by
  refine arr_ext fun j _ => ?_
  unfold upto
  by_cases h : j = k
  · subst h; simp
  · by_cases h2 : j < k
    · rw [if_neg h, if_pos h2, if_pos (by omega)]
    · rw [if_neg h, if_neg h2, if_neg (by omega)]
theorem upto_zero (b : Bool) (n : Nat) : arrA b (fun _ => 0) = arrA b (upto n 0) := arr_ext fun j _ => by simp [upto]
theorem upto_all (b : Bool) (n : Nat) : arrA b (upto n 16) = arrA b (dg n) := arr_ext fun j h => by simp [upto, h]
theorem arr_cells {w : World} {g : Nat} {t : TypeId} {b : Bool} {D : Nat → Nat} (h : Blk w g t (arrA b D)) : w.cell? ⟨g, 0, none⟩ = some (.bool b) ∧ w.cell? ⟨g, 1, none⟩ = some (.int .u64 ((D 0 : Nat) : Int)) ∧ w.cell? ⟨g, 2, none⟩ = some (.int .u64 ((D 1 : Nat) : Int)) ∧ w.cell? ⟨g, 3, none⟩ = some (.int .u64 ((D 2 : Nat) : Int)) ∧ w.cell? ⟨g, 4, none⟩ = some (.int .u64 ((D 3 : Nat) : Int)) ∧ w.cell? ⟨g, 5, none⟩ = some (.int .u64 ((D 4 : Nat) : Int)) ∧ w.cell? ⟨g, 6, none⟩ = some (.int .u64 ((D 5 : Nat) : Int)) ∧ w.cell? ⟨g, 7, none⟩ = some (.int .u64 ((D 6 : Nat) : Int)) ∧ w.cell? ⟨g, 8, none⟩ = some (.int .u64 ((D 7 : Nat) : Int)) ∧ w.cell? ⟨g, 9, none⟩ = some (.int .u64 ((D 8 : Nat) : Int)) ∧ w.cell? ⟨g, 10, none⟩ = some (.int .u64 ((D 9 : Nat) : Int)) ∧ w.cell? ⟨g, 11, none⟩ = some (.int .u64 ((D 10 : Nat) : Int)) ∧ w.cell? ⟨g, 12, none⟩ = some (.int .u64 ((D 11 : Nat) : Int)) ∧ w.cell? ⟨g, 13, none⟩ = some (.int .u64 ((D 12 : Nat) : Int)) ∧ w.cell? ⟨g, 14, none⟩ = some (.int .u64 ((D 13 : Nat) : Int)) ∧ w.cell? ⟨g, 15, none⟩ = some (.int .u64 ((D 14 : Nat) : Int)) ∧ w.cell? ⟨g, 16, none⟩ = some (.int .u64 ((D 15 : Nat) : Int)) := by
  refine ⟨(h.cell 0).trans (arr_get0 b D), (h.cell 1).trans (arr_get b D 0 (by omega)), (h.cell 2).trans (arr_get b D 1 (by omega)), (h.cell 3).trans (arr_get b D 2 (by omega)), (h.cell 4).trans (arr_get b D 3 (by omega)), (h.cell 5).trans (arr_get b D 4 (by omega)), (h.cell 6).trans (arr_get b D 5 (by omega)), (h.cell 7).trans (arr_get b D 6 (by omega)), (h.cell 8).trans (arr_get b D 7 (by omega)), (h.cell 9).trans (arr_get b D 8 (by omega)), (h.cell 10).trans (arr_get b D 9 (by omega)), (h.cell 11).trans (arr_get b D 10 (by omega)), (h.cell 12).trans (arr_get b D 11 (by omega)), (h.cell 13).trans (arr_get b D 12 (by omega)), (h.cell 14).trans (arr_get b D 13 (by omega)), (h.cell 15).trans (arr_get b D 14 (by omega)), (h.cell 16).trans (arr_get b D 15 (by omega))⟩
theorem arr_lit (b : Bool) (D : Nat → Nat) : (#[.bool b, .int .u64 ((D 0 : Nat) : Int), .int .u64 ((D 1 : Nat) : Int), .int .u64 ((D 2 : Nat) : Int), .int .u64 ((D 3 : Nat) : Int), .int .u64 ((D 4 : Nat) : Int), .int .u64 ((D 5 : Nat) : Int), .int .u64 ((D 6 : Nat) : Int), .int .u64 ((D 7 : Nat) : Int), .int .u64 ((D 8 : Nat) : Int), .int .u64 ((D 9 : Nat) : Int), .int .u64 ((D 10 : Nat) : Int), .int .u64 ((D 11 : Nat) : Int), .int .u64 ((D 12 : Nat) : Int), .int .u64 ((D 13 : Nat) : Int), .int .u64 ((D 14 : Nat) : Int), .int .u64 ((D 15 : Nat) : Int)] : Array Value) = arrA b D := rfl
end Go.Proofs.YtjajbbgebblalaaGreatDoor

namespace Go.Proofs.YtjajbbgebblalaaGreatDoor
open Go.RowKit
set_option linter.unusedVariables false
set_option linter.unusedSimpArgs false
/-- The number with digit k set to x. -/
def setD (Z k x : Nat) : Nat := Z - dg Z k * 65536 ^ k + x * 65536 ^ k
theorem dg_le_num (Z k : Nat) : dg Z k * 65536 ^ k ≤ Z := by
  have h1 : dg Z k ≤ Z / 65536 ^ k := Nat.mod_le _ _
  exact Nat.le_trans (Nat.mul_le_mul_right _ h1) (Nat.div_mul_le_self _ _)
theorem dg_split (Z k : Nat) : Z = Z / 65536 ^ (k + 1) * (65536 * 65536 ^ k) + dg Z k * 65536 ^ k + Z % 65536 ^ k := by
  have h1 := Nat.div_add_mod Z (65536 ^ (k + 1))
  have h2 := mod_next Z k
  rw [h2, Nat.pow_succ, Nat.mul_comm (65536 ^ k) 65536, Nat.mul_comm (65536 * 65536 ^ k), Nat.mul_comm (65536 ^ k) (dg Z k)] at h1
  rw [Nat.pow_succ, Nat.mul_comm (65536 ^ k) 65536]
  omega
theorem setD_split (Z k x : Nat) : setD Z k x = Z / 65536 ^ (k + 1) * (65536 * 65536 ^ k) + x * 65536 ^ k + Z % 65536 ^ k := by
  have h := dg_split Z k
  unfold setD
  generalize Z / 65536 ^ (k + 1) * (65536 * 65536 ^ k) = a at *
  generalize dg Z k * 65536 ^ k = b at *
  generalize Z % 65536 ^ k = c at *
  omega
theorem dg_setD (Z k x j : Nat) (hx : x < 65536) : dg (setD Z k x) j = if j = k then x else dg Z j := by
  have hp := pow_pos' k
  have hl := Nat.mod_lt Z hp
  rcases Nat.lt_trichotomy j k with h | h | h
  · rw [if_neg (by omega)]
    have e1 : ∀ y : Nat, dg (y * 65536 ^ k + Z % 65536 ^ k) j = dg (Z % 65536 ^ k) j := by
      intro y
      unfold dg
      rw [show (65536 : Nat) ^ k = 65536 ^ (k - j - 1) * 65536 * 65536 ^ j by rw [← Nat.pow_succ, ← Nat.pow_add]; congr 1; omega, ← Nat.mul_assoc,
        Nat.add_comm, Nat.add_mul_div_right _ _ (pow_pos' j), ← Nat.mul_assoc, Nat.add_mul_mod_self_right]
    rw [setD_split, show Z / 65536 ^ (k + 1) * (65536 * 65536 ^ k) + x * 65536 ^ k = (Z / 65536 ^ (k + 1) * 65536 + x) * 65536 ^ k by rw [Nat.add_mul, Nat.mul_assoc], e1]
    have h2 := dg_split Z k
    rw [show Z / 65536 ^ (k + 1) * (65536 * 65536 ^ k) + dg Z k * 65536 ^ k = (Z / 65536 ^ (k + 1) * 65536 + dg Z k) * 65536 ^ k by rw [Nat.add_mul, Nat.mul_assoc]] at h2
    have h3 := e1 (Z / 65536 ^ (k + 1) * 65536 + dg Z k)
    rw [← h2] at h3
    exact h3.symm
  · subst h
    rw [if_pos rfl, setD_split]
    unfold dg
    rw [show Z / 65536 ^ (j + 1) * (65536 * 65536 ^ j) + x * 65536 ^ j = (Z / 65536 ^ (j + 1) * 65536 + x) * 65536 ^ j by rw [Nat.add_mul, Nat.mul_assoc],
      Nat.add_comm, Nat.add_mul_div_right _ _ hp, Nat.div_eq_of_lt hl]
    omega
  · rw [if_neg (by omega), setD_split]
    have e : ∀ y, y < 65536 → dg (Z / 65536 ^ (k + 1) * (65536 * 65536 ^ k) + y * 65536 ^ k + Z % 65536 ^ k) j = dg (Z / 65536 ^ (k + 1)) (j - (k + 1)) := by
      intro y hy
      have hlt : y * 65536 ^ k + Z % 65536 ^ k < 65536 ^ (k + 1) := by
        have h1 : (y + 1) * 65536 ^ k ≤ 65536 * 65536 ^ k := Nat.mul_le_mul_right _ hy
        rw [Nat.pow_succ, Nat.mul_comm (65536 ^ k) 65536]
        rw [Nat.add_mul] at h1
        omega
      unfold dg
      rw [show (65536 : Nat) ^ j = 65536 ^ (k + 1) * 65536 ^ (j - (k + 1)) by rw [← Nat.pow_add]; congr 1; omega, ← Nat.div_div_eq_div_mul, Nat.add_assoc,
        show 65536 * 65536 ^ k = 65536 ^ (k + 1) by rw [Nat.pow_succ, Nat.mul_comm], Nat.add_comm, Nat.add_mul_div_right _ _ (pow_pos' (k + 1)), Nat.div_eq_of_lt hlt, Nat.zero_add]
    have h2 := dg_split Z k
    rw [e x hx]
    have h3 := e (dg Z k) (dg_lt Z k)
    rw [← h2] at h3
    exact h3.symm
/-- One step of the product: digit k and the carry. -/
theorem setD_step (Z k c t V : Nat) (h : Z + c * 65536 ^ k = V) :
    setD Z k ((dg Z k + t + c) % 65536) + (dg Z k + t + c) / 65536 * 65536 ^ (k + 1) = V + t * 65536 ^ k := by
  have hd := dg_le_num Z k
  unfold setD
  have e := Nat.div_add_mod (dg Z k + t + c) 65536
  have e2 : (dg Z k + t + c) / 65536 * 65536 ^ (k + 1) + (dg Z k + t + c) % 65536 * 65536 ^ k = dg Z k * 65536 ^ k + t * 65536 ^ k + c * 65536 ^ k := by
    rw [Nat.pow_succ, Nat.mul_comm (65536 ^ k) 65536, ← Nat.mul_assoc, ← Nat.add_mul, Nat.mul_comm ((dg Z k + t + c) / 65536), e, Nat.add_mul, Nat.add_mul]
  generalize (dg Z k + t + c) / 65536 * 65536 ^ (k + 1) = a at *
  generalize (dg Z k + t + c) % 65536 * 65536 ^ k = b at *
  generalize dg Z k * 65536 ^ k = d at *
  generalize t * 65536 ^ k = f at *
  omega
theorem row_next (m n i j Z c : Nat) (h : Z + c * 65536 ^ (i + j) = m % 65536 ^ i * n + dg m i * (n % 65536 ^ j) * 65536 ^ i) :
    setD Z (i + j) ((dg Z (i + j) + dg m i * dg n j + c) % 65536) + (dg Z (i + j) + dg m i * dg n j + c) / 65536 * 65536 ^ (i + (j + 1)) = m % 65536 ^ i * n + dg m i * (n % 65536 ^ (j + 1)) * 65536 ^ i := by
  rw [show i + (j + 1) = (i + j) + 1 by omega, setD_step Z (i + j) c (dg m i * dg n j) _ h, mod_next n j, Nat.mul_add, Nat.add_mul, Nat.pow_add]
  have e : dg m i * dg n j * (65536 ^ i * 65536 ^ j) = dg m i * (65536 ^ j * dg n j) * 65536 ^ i := by
    rw [Nat.mul_assoc, Nat.mul_assoc, Nat.mul_left_comm (dg n j), Nat.mul_comm (dg n j), Nat.mul_comm (65536 ^ i)]
  omega
theorem row_done (m n i : Nat) (hn : n < 65536 ^ 8) : m % 65536 ^ i * n + dg m i * (n % 65536 ^ 8) * 65536 ^ i = m % 65536 ^ (i + 1) * n := by
  rw [Nat.mod_eq_of_lt hn, mod_next, Nat.add_mul, Nat.mul_comm (65536 ^ i) (dg m i), Nat.mul_assoc (dg m i), Nat.mul_assoc (dg m i), Nat.mul_comm n]
  omega
theorem prod16 (m n i : Nat) (hm : m < 65536 ^ 8) (hn : n < 65536 ^ 8) : m % 65536 ^ i * n < 65536 ^ 16 := by
  have h1 : m % 65536 ^ i ≤ m := Nat.mod_le _ _
  have h2 : m % 65536 ^ i * n < 65536 ^ 8 * 65536 ^ 8 := by
    rcases Nat.eq_zero_or_pos n with h | h
    · subst h; simp
    · exact Nat.lt_of_lt_of_le (Nat.mul_lt_mul_of_pos_right (Nat.lt_of_le_of_lt h1 hm) h) (Nat.mul_le_mul_left _ (Nat.le_of_lt hn))
  rw [← Nat.pow_add] at h2
  exact h2
theorem carry_small (d t c : Nat) (hd : d < 65536) (ht : t ≤ 65535 * 65535) (hc : c < 65536) : (d + t + c) / 65536 < 65536 := by omega
end Go.Proofs.YtjajbbgebblalaaGreatDoor

namespace Go.Proofs.YtjajbbgebblalaaGreatDoor
open Go.RowKit
set_option linter.unusedVariables false
set_option linter.unusedSimpArgs false
theorem pow16 (i : Nat) : 65536 ^ i = 2 ^ (16 * i) := by rw [Nat.pow_mul]
/-- The state of the long division of m by n when the bits from k on are done: quotient so far, rest. -/
def ovQ (m n k : Nat) : Nat := m / 2 ^ k / n * 2 ^ k
def ovR (m n k : Nat) : Nat := m / 2 ^ k % n
def bitOf (m k : Nat) : Nat := m / 2 ^ k % 2
theorem half_bit (m k : Nat) : m / 2 ^ k = 2 * (m / 2 ^ (k + 1)) + bitOf m k := by
  unfold bitOf
  rw [Nat.pow_succ, ← Nat.div_div_eq_div_mul]
  omega
theorem bit_le (m k : Nat) : bitOf m k ≤ 1 := by unfold bitOf; omega
theorem bit_dg (m k : Nat) : dg m (k / 16) / 2 ^ (k % 16) % 2 = bitOf m k := by
  unfold dg bitOf
  have hk : k = 16 * (k / 16) + k % 16 := by omega
  have hs : k % 16 ≤ 15 := by omega
  rw [pow16]
  have e : m / 2 ^ k = m / 2 ^ (16 * (k / 16)) / 2 ^ (k % 16) := by
    rw [Nat.div_div_eq_div_mul, ← Nat.pow_add, ← hk]
  rw [e]
  generalize m / 2 ^ (16 * (k / 16)) = x
  generalize k % 16 = s at *
  have h : (65536 : Nat) = 2 ^ s * 2 ^ (16 - s) := by rw [← Nat.pow_add, show s + (16 - s) = 16 by omega]
  rw [h, Nat.mod_mul_right_div_self]
  have h2 : 2 ^ (16 - s) = 2 * 2 ^ (15 - s) := by rw [show 16 - s = (15 - s) + 1 by omega, Nat.pow_succ, Nat.mul_comm]
  rw [h2, Nat.mod_mul_right_mod]
theorem rest_next (m n k : Nat) (hn : 0 < n) : ovR m n k = if n ≤ 2 * ovR m n (k + 1) + bitOf m k then 2 * ovR m n (k + 1) + bitOf m k - n else 2 * ovR m n (k + 1) + bitOf m k := by
  unfold ovR
  rw [half_bit m k]
  have h := Nat.div_add_mod (m / 2 ^ (k + 1)) n
  have hl := Nat.mod_lt (m / 2 ^ (k + 1)) hn
  have hb := bit_le m k
  generalize hq : m / 2 ^ (k + 1) / n = q at *
  generalize hr : m / 2 ^ (k + 1) % n = r at *
  generalize m / 2 ^ (k + 1) = x at *
  have e : 2 * x + bitOf m k = 2 * r + bitOf m k + n * (2 * q) := by rw [← h, Nat.mul_left_comm]; omega
  rw [e, Nat.add_mul_mod_self_left]
  split
  · rw [Nat.mod_eq_sub_mod (by omega), Nat.mod_eq_of_lt (by omega)]
  · rw [Nat.mod_eq_of_lt (by omega)]
theorem quot_next (m n k : Nat) (hn : 0 < n) : ovQ m n k = if n ≤ 2 * ovR m n (k + 1) + bitOf m k then ovQ m n (k + 1) + 2 ^ k else ovQ m n (k + 1) := by
  unfold ovQ ovR
  rw [half_bit m k]
  have h := Nat.div_add_mod (m / 2 ^ (k + 1)) n
  have hl := Nat.mod_lt (m / 2 ^ (k + 1)) hn
  have hb := bit_le m k
  generalize hq : m / 2 ^ (k + 1) / n = q at *
  generalize hr : m / 2 ^ (k + 1) % n = r at *
  generalize m / 2 ^ (k + 1) = x at *
  have e : 2 * x + bitOf m k = 2 * r + bitOf m k + n * (2 * q) := by rw [← h, Nat.mul_left_comm]; omega
  rw [e, Nat.add_mul_div_left _ _ hn]
  have e2 : q * 2 ^ (k + 1) = 2 * q * 2 ^ k := by rw [Nat.pow_succ, Nat.mul_comm (2 ^ k) 2, ← Nat.mul_assoc, Nat.mul_comm q 2]
  rw [e2]
  split
  · rw [show (2 * r + bitOf m k) / n = 1 by rw [Nat.div_eq_iff hn]; omega, Nat.add_mul, Nat.one_mul, Nat.add_comm]
  · rw [Nat.div_eq_of_lt (by omega), Nat.zero_add]
/-- The last digit of an even number takes one more. -/
theorem even_set (x b : Nat) (hx : x % 2 = 0) (hb : b ≤ 1) : dg x 0 + b < 65536 ∧ setD x 0 (dg x 0 + b) = x + b := by
  have h : dg x 0 = x % 65536 := by simp [dg]
  refine ⟨by omega, ?_⟩
  unfold setD
  rw [h, Nat.pow_zero, Nat.mul_one, Nat.mul_one]
  have := Nat.mod_le x 65536
  omega
/-- A bit that is not set is set. -/
theorem bit_set (q k : Nat) : dg (q * 2 ^ (k + 1)) (k / 16) + 2 ^ (k % 16) < 65536 ∧ setD (q * 2 ^ (k + 1)) (k / 16) (dg (q * 2 ^ (k + 1)) (k / 16) + 2 ^ (k % 16)) = q * 2 ^ (k + 1) + 2 ^ k := by
  have hk : k = 16 * (k / 16) + k % 16 := by omega
  have hs : k % 16 ≤ 15 := by omega
  constructor
  · unfold dg
    rw [pow16, show 2 ^ (k + 1) = 2 ^ (k % 16 + 1) * 2 ^ (16 * (k / 16)) by rw [← Nat.pow_add]; congr 1; omega, ← Nat.mul_assoc, Nat.mul_div_cancel _ (Nat.pow_pos (by decide))]
    generalize k % 16 = s at *
    have h : (65536 : Nat) = 2 ^ (s + 1) * 2 ^ (15 - s) := by rw [← Nat.pow_add, show s + 1 + (15 - s) = 16 by omega]
    have h2 : 2 ^ s < 2 ^ (s + 1) := Nat.pow_lt_pow_right (by decide) (by omega)
    have e : q * 2 ^ (s + 1) % 65536 = 2 ^ (s + 1) * (q % 2 ^ (15 - s)) := by rw [h, Nat.mul_comm q, Nat.mul_mod_mul_left]
    have hl : q % 2 ^ (15 - s) + 1 ≤ 2 ^ (15 - s) := Nat.mod_lt _ (Nat.pow_pos (by decide))
    have h3 := Nat.mul_le_mul_left (2 ^ (s + 1)) hl
    rw [← h, Nat.mul_add, Nat.mul_one] at h3
    rw [e]
    omega
  · have hd := dg_le_num (q * 2 ^ (k + 1)) (k / 16)
    unfold setD
    rw [Nat.add_mul, pow16] at *
    have e : 2 ^ (k % 16) * 2 ^ (16 * (k / 16)) = 2 ^ k := by rw [← Nat.pow_add]; congr 1; omega
    rw [e]
    omega
theorem ovQ_top (m n : Nat) (hm : m < 2 ^ 256) : ovQ m n 256 = 0 := by unfold ovQ; rw [Nat.div_eq_of_lt hm]; simp
theorem ovR_top (m n : Nat) (hm : m < 2 ^ 256) : ovR m n 256 = 0 := by unfold ovR; rw [Nat.div_eq_of_lt hm]; simp
theorem ovQ_end (m n : Nat) : ovQ m n 0 = m / n := by simp [ovQ]
theorem ovR_end (m n : Nat) : ovR m n 0 = m % n := by simp [ovR]
theorem ovR_lt (m n k : Nat) (hn : 0 < n) : ovR m n k < n := Nat.mod_lt _ hn
end Go.Proofs.YtjajbbgebblalaaGreatDoor

namespace Go.Proofs.YtjajbbgebblalaaGreatDoor
open Go.RowKit
set_option linter.unusedVariables false
set_option linter.unusedSimpArgs false
/-- What a guess of a digit comes to: 'a' the high part, 'c' the next half, 'y' the divisor, halves y1, y0. -/
structure Guess (a c y y1 y0 q r : Nat) : Prop where
  eq : q * y1 + r = a
  ge : (a * 4294967296 + c) / y ≤ q
  rlt : r < 4294967296
theorem aux_le (p a c s : Nat) (h : p * 4294967296 + s ≤ a * 4294967296 + c) (hc : c < 4294967296) : p ≤ a := by omega
theorem guess_first {a c y y1 y0 : Nat} (hy : y = y1 * 4294967296 + y0) (hy0 : y0 < 4294967296) (hn : 9223372036854775808 ≤ y) (hylt : y < 18446744073709551616) (hc : c < 4294967296) : Guess a c y y1 y0 (a / y1) (a % y1) := by
  have h1 : 2147483648 ≤ y1 := by omega
  refine ⟨by rw [Nat.mul_comm]; exact Nat.div_add_mod a y1, ?_, by have := Nat.mod_lt a (show 0 < y1 by omega); omega⟩
  rw [Nat.le_div_iff_mul_le (by omega)]
  have h2 := Nat.div_mul_le_self (a * 4294967296 + c) y
  generalize (a * 4294967296 + c) / y = q at *
  subst hy
  rw [Nat.mul_add, ← Nat.mul_assoc] at h2
  exact aux_le _ a c (q * y0) h2 hc
theorem guess_lt {a c y : Nat} (ha : a < y) (hc : c < 4294967296) : (a * 4294967296 + c) / y < 4294967296 := by
  rw [Nat.div_lt_iff_lt_mul (by omega)]
  have : (a + 1) * 4294967296 ≤ y * 4294967296 := Nat.mul_le_mul_right _ ha
  omega
theorem guess_hi {a c y y1 y0 q r : Nat} (g : Guess a c y y1 y0 q r) (hy : y = y1 * 4294967296 + y0) (ha : a < y) (hc : c < 4294967296) (h : 4294967296 ≤ q) : (a * 4294967296 + c) / y < q := by
  have := guess_lt ha hc
  omega
theorem guess_more {a c y y1 y0 q r : Nat} (g : Guess a c y y1 y0 q r) (hy : y = y1 * 4294967296 + y0) (hpos : 0 < y) (h : 4294967296 * r + c < q * y0) : (a * 4294967296 + c) / y < q := by
  rw [Nat.div_lt_iff_lt_mul hpos]
  have e := g.eq
  subst hy
  rw [Nat.mul_add, ← Nat.mul_assoc]
  generalize q * y1 = p at *
  omega
theorem guess_done {a c y y1 y0 q r : Nat} (g : Guess a c y y1 y0 q r) (hy : y = y1 * 4294967296 + y0) (hpos : 0 < y) (h : q * y0 ≤ 4294967296 * r + c) : q = (a * 4294967296 + c) / y := by
  refine Nat.le_antisymm ?_ g.ge
  rw [Nat.le_div_iff_mul_le hpos]
  have e := g.eq
  subst hy
  rw [Nat.mul_add, ← Nat.mul_assoc]
  generalize q * y1 = p at *
  omega
/-- One lower: the guess that goes on, or is done. -/
theorem guess_next {a c y y1 y0 q r : Nat} (g : Guess a c y y1 y0 q r) (h : (a * 4294967296 + c) / y < q) : (q - 1) * y1 + (r + y1) = a ∧ (a * 4294967296 + c) / y ≤ q - 1 ∧ 1 ≤ q := by
  have e := g.eq
  have hq0 : 0 < q := Nat.lt_of_le_of_lt (Nat.zero_le _) h
  obtain ⟨q, rfl⟩ : ∃ p, q = p + 1 := ⟨q - 1, by omega⟩
  refine ⟨?_, by omega, by omega⟩
  rw [Nat.add_mul, Nat.one_mul] at e
  simp only [Nat.add_sub_cancel]
  omega
theorem guess_over {a c y y1 y0 q r : Nat} (he : q * y1 + r = a) (hge : (a * 4294967296 + c) / y ≤ q) (hy : y = y1 * 4294967296 + y0) (hy0 : y0 < 4294967296) (ha : a < y) (hpos : 0 < y) (h : 4294967296 ≤ r) : q = (a * 4294967296 + c) / y := by
  refine Nat.le_antisymm ?_ hge
  rw [Nat.le_div_iff_mul_le hpos]
  have hq : q < 4294967296 := by
    rcases Nat.lt_or_ge q 4294967296 with h1 | h1
    · exact h1
    · have : 4294967296 * y1 ≤ q * y1 := Nat.mul_le_mul_right _ h1
      omega
  have hp : q * y0 ≤ 4294967296 * 4294967296 := Nat.mul_le_mul (Nat.le_of_lt hq) (Nat.le_of_lt hy0)
  subst hy
  rw [Nat.mul_add, ← Nat.mul_assoc]
  generalize q * y1 = p at *
  omega
theorem q_bd {a y1 q r : Nat} (he : q * y1 + r = a) (h1 : 2147483648 ≤ y1) (ha : a < 18446744073709551616) : q < 8589934592 := by
  rcases Nat.lt_or_ge q 8589934592 with h | h
  · exact h
  · have : 8589934592 * 2147483648 ≤ q * y1 := Nat.mul_le_mul h h1
    omega
theorem qy0_bd {q y0 : Nat} (h : q < 4294967296) (h0 : y0 < 4294967296) : q * y0 ≤ 18446744065119617025 := by
  have : q * y0 ≤ 4294967295 * 4294967295 := Nat.mul_le_mul (by omega) (by omega)
  omega
/-- A digit times the divisor, as 64 bits hold it: what is left behind it. -/
theorem rest_wrap (a c y : Nat) (ha : a < y) (hy : y < 18446744073709551616) (hc : c < 4294967296) :
    ((a : Int) * 4294967296 % 18446744073709551616 + c) % 18446744073709551616 = ((a : Int) * 4294967296 + c) % 18446744073709551616 := by omega
theorem rest_eq (N q y : Nat) (hq : q = N / y) (hpos : 0 < y) (hy : y < 18446744073709551616) : (((N : Int) % 18446744073709551616) - ((q : Int) * y % 18446744073709551616)) % 18446744073709551616 = ((N % y : Nat) : Int) := by
  have h := Nat.div_add_mod N y
  have hl := Nat.mod_lt N hpos
  rw [← hq, Nat.mul_comm] at h
  have hc : ((q : Int) * y) = ((q * y : Nat) : Int) := by simp
  rw [hc]
  generalize q * y = p at *
  omega
theorem aux_two (u c0 c1 t r : Nat) (h : t + r = u * 4294967296 + c1) : u * 18446744073709551616 + (c1 * 4294967296 + c0) = (r * 4294967296 + c0) + t * 4294967296 := by omega
/-- The two digits together. -/
theorem two_digits (u c0 c1 y : Nat) (hpos : 0 < y) :
    (u * 18446744073709551616 + (c1 * 4294967296 + c0)) / y = (u * 4294967296 + c1) / y * 4294967296 + ((u * 4294967296 + c1) % y * 4294967296 + c0) / y ∧
    (u * 18446744073709551616 + (c1 * 4294967296 + c0)) % y = ((u * 4294967296 + c1) % y * 4294967296 + c0) % y := by
  have h := Nat.div_add_mod (u * 4294967296 + c1) y
  rw [aux_two u c0 c1 _ _ h, Nat.mul_assoc, Nat.add_mul_div_left _ _ hpos, Nat.add_mul_mod_self_left]
  exact ⟨Nat.add_comm _ _, rfl⟩
theorem bitLenAux_spec : ∀ (f x : Nat), x ≠ 0 → x < 2 ^ f → 1 ≤ Lib.bitLenAux f x ∧ 2 ^ (Lib.bitLenAux f x - 1) ≤ x ∧ x < 2 ^ Lib.bitLenAux f x := by
  intro f
  induction f with
  | zero => intro x h0 h; simp at h; omega
  | succ f ih =>
    intro x h0 h
    unfold Lib.bitLenAux
    rw [if_neg h0]
    by_cases h1 : x / 2 = 0
    · have hx : x = 1 := by omega
      subst hx
      have : Lib.bitLenAux f (1 / 2) = 0 := by cases f <;> simp [Lib.bitLenAux]
      rw [this]; decide
    · obtain ⟨k1, k2, k3⟩ := ih (x / 2) h1 (by rw [Nat.pow_succ] at h; omega)
      generalize Lib.bitLenAux f (x / 2) = b at *
      obtain ⟨b, rfl⟩ : ∃ c, b = c + 1 := ⟨b - 1, by omega⟩
      refine ⟨by omega, ?_, ?_⟩
      · rw [show 1 + (b + 1) - 1 = b + 1 by omega, Nat.pow_succ]
        simp only [Nat.add_sub_cancel] at k2
        omega
      · rw [show 1 + (b + 1) = (b + 1) + 1 by omega, Nat.pow_succ]
        omega
/-- How far a divisor is shifted so that its highest bit is set. -/
theorem norm_spec (y : Nat) (h0 : 0 < y) (hy : y < 18446744073709551616) : ∃ s, s ≤ 63 ∧ Lib.bitLen y = 64 - s ∧ 9223372036854775808 ≤ y * 2 ^ s ∧ y * 2 ^ s < 18446744073709551616 := by
  obtain ⟨k1, k2, k3⟩ := bitLenAux_spec 64 y (by omega) hy
  have k4 : Lib.bitLen y ≤ 64 := Lib.bitLen_le y 64 (Nat.le_refl _) hy
  unfold Lib.bitLen at *
  generalize Lib.bitLenAux 64 y = b at *
  refine ⟨64 - b, by omega, by omega, ?_, ?_⟩
  · have h := Nat.mul_le_mul_right (2 ^ (64 - b)) k2
    rw [← Nat.pow_add, show b - 1 + (64 - b) = 63 by omega] at h
    exact h
  · have h := Nat.mul_lt_mul_of_pos_right k3 (Nat.pow_pos (n := 64 - b) (by decide : 0 < 2))
    rw [← Nat.pow_add, show b + (64 - b) = 64 by omega] at h
    exact h
theorem or_shift (hi lo s : Nat) (hs : s ≤ 63) (hh : hi * 2 ^ s < 18446744073709551616) (hlo : lo < 18446744073709551616) :
    bits .or .u64 (IntKind.u64.wrap ((hi : Int) * 2 ^ s)) ((lo : Int) / 2 ^ (64 - s)) = ((hi * 2 ^ s + lo / 2 ^ (64 - s) : Nat) : Int) := by
  have e1 : IntKind.u64.wrap ((hi : Int) * 2 ^ s) = ((hi * 2 ^ s : Nat) : Int) := by
    rw [show ((hi : Int) * 2 ^ s) = ((hi * 2 ^ s : Nat) : Int) by simp, IntKind.wrap_u64]; omega
  have e2 : ((lo : Int) / 2 ^ (64 - s)) = ((lo / 2 ^ (64 - s) : Nat) : Int) := by simp
  have hl : lo / 2 ^ (64 - s) < 2 ^ s := by
    rw [Nat.div_lt_iff_lt_mul (Nat.pow_pos (by decide)), ← Nat.pow_add, show s + (64 - s) = 64 by omega]
    exact hlo
  have hl2 : lo / 2 ^ (64 - s) < 18446744073709551616 := Nat.lt_of_le_of_lt (Nat.div_le_self _ _) hlo
  rw [e1, e2, u64_or_nat _ _ hh hl2, Nat.mul_comm hi, Nat.two_pow_add_eq_or_of_lt hl]
theorem shift_split (hi lo s : Nat) (hs : s ≤ 63) : (hi * 18446744073709551616 + lo) * 2 ^ s = (hi * 2 ^ s + lo / 2 ^ (64 - s)) * 18446744073709551616 + lo * 2 ^ s % 18446744073709551616 := by
  have e : lo * 2 ^ s / 18446744073709551616 = lo / 2 ^ (64 - s) := by
    rw [show (18446744073709551616 : Nat) = 2 ^ (64 - s) * 2 ^ s by rw [← Nat.pow_add, show 64 - s + s = 64 by omega]]
    exact Nat.mul_div_mul_right _ _ (Nat.pow_pos (by decide))
  have h := Nat.div_add_mod (lo * 2 ^ s) 18446744073709551616
  rw [e] at h
  rw [Nat.add_mul, Nat.mul_right_comm]
  generalize hi * 2 ^ s = a at *
  generalize lo * 2 ^ s = b at *
  omega
theorem shift_lt (hi lo y s A L : Nat) (h1 : hi < y) (hlo : lo < 18446744073709551616) (he : (hi * 18446744073709551616 + lo) * 2 ^ s = A * 18446744073709551616 + L) : A < y * 2 ^ s := by
  have h2 : (hi * 18446744073709551616 + lo) * 2 ^ s < (y * 18446744073709551616) * 2 ^ s := Nat.mul_lt_mul_of_pos_right (by omega) (Nat.pow_pos (by decide))
  rw [he, Nat.mul_right_comm] at h2
  generalize y * 2 ^ s = Y at *
  omega
/-- All of the division: the digits of the shifted numbers give the quotient and the rest. -/
theorem div_all (N y s A L c1 c0 : Nat) (hy : 0 < y) (he : N * 2 ^ s = A * 18446744073709551616 + L) (hL : L = c1 * 4294967296 + c0) :
    N / y = (A * 4294967296 + c1) / (y * 2 ^ s) * 4294967296 + ((A * 4294967296 + c1) % (y * 2 ^ s) * 4294967296 + c0) / (y * 2 ^ s) ∧
    (N % y) * 2 ^ s = ((A * 4294967296 + c1) % (y * 2 ^ s) * 4294967296 + c0) % (y * 2 ^ s) := by
  have hp : 0 < 2 ^ s := Nat.pow_pos (by decide)
  obtain ⟨h1, h2⟩ := two_digits A c0 c1 (y * 2 ^ s) (Nat.mul_pos hy hp)
  rw [← hL, ← he] at h1 h2
  rw [Nat.mul_div_mul_right _ _ hp] at h1
  rw [Nat.mul_mod_mul_right] at h2
  exact ⟨h1, h2⟩
end Go.Proofs.YtjajbbgebblalaaGreatDoor
