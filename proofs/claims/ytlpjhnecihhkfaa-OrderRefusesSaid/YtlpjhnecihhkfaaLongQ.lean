/-
  Plain laws: sums of long numbers with their signs. No program is walked here.
-/
import Derived.Test.YtlpjhnecihhkfaaLongP
namespace Go.Proofs.Ytlpjhnecihhkfaa
open Go.RowKit
set_option linter.unusedVariables false
set_option linter.unusedSimpArgs false
def plusB (a b : Bool) (m n : Nat) : Bool := if a = b then a else if n ≤ m then a else b
def plusN (a b : Bool) (m n : Nat) : Nat := if a = b then m + n else if n ≤ m then m - n else n - m
theorem sg_plus (a b : Bool) (m n : Nat) : sg (plusB a b m n) (plusN a b m n) = sg a m + sg b n := by
  unfold sg plusB plusN
  by_cases h : n ≤ m <;> cases a <;> cases b <;> simp [h] <;> omega
theorem plusN_le (a b : Bool) (m n : Nat) : plusN a b m n ≤ m + n := by
  unfold plusN; split <;> (try split) <;> omega
/-- |v|. -/
def absN (v : Int) : Nat := v.natAbs
theorem sg_abs (v : Int) : sg (decide (v < 0)) (absN v) = v := by
  unfold sg absN
  by_cases h : v < 0 <;> simp [h] <;> omega
/-- The reference's sum. -/
def addL (p : Bool × Nat) (v : Int) : Bool × Nat := (plusB p.1 (decide (v < 0)) p.2 (absN v), plusN p.1 (decide (v < 0)) p.2 (absN v))
def sumL (l : List Int) : Bool × Nat := l.foldl addL (false, 0)
theorem sumL_snoc (l : List Int) (v : Int) : sumL (l ++ [v]) = addL (sumL l) v := by simp [sumL, List.foldl_append]
theorem sumL_sg (l : List Int) : sg (sumL l).1 (sumL l).2 = l.sum := by
  have h : ∀ (l : List Int) (p : Bool × Nat), sg (l.foldl addL p).1 (l.foldl addL p).2 = sg p.1 p.2 + l.sum := by
    intro l
    induction l with
    | nil => intro p; simp
    | cons v l ih => intro p; rw [List.foldl_cons, ih]; simp only [addL, sg_plus, sg_abs, List.sum_cons]; omega
  have h0 := h l (false, 0)
  rw [show sg false 0 = 0 from rfl, Int.zero_add] at h0
  exact h0
theorem sumL_le (l : List Int) (hl : ∀ v ∈ l, -9223372036854775808 ≤ v ∧ v ≤ 9223372036854775807) : (sumL l).2 ≤ 9223372036854775808 * l.length := by
  have h : ∀ (l : List Int) (p : Bool × Nat), (∀ v ∈ l, -9223372036854775808 ≤ v ∧ v ≤ 9223372036854775807) → (l.foldl addL p).2 ≤ p.2 + 9223372036854775808 * l.length := by
    intro l
    induction l with
    | nil => intro p _; simp
    | cons v l ih =>
      intro p hp
      have h1 := ih (addL p v) (fun x hx => hp x (by simp [hx]))
      have h2 := plusN_le p.1 (decide (v < 0)) p.2 (absN v)
      have h3 := hp v (by simp)
      have h4 : absN v ≤ 9223372036854775808 := by unfold absN; omega
      simp only [List.foldl_cons, List.length_cons]
      have h5 : (addL p v).2 ≤ p.2 + absN v := h2
      omega
  have := h l (false, 0) hl
  simpa [sumL] using this
end Go.Proofs.Ytlpjhnecihhkfaa
