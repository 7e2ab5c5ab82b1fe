/-
  The walks of the laws' helpers head and same, and of the laws NumAdds and NumSums.
-/
import Derived.Test.YtjomgppbialeoaaGreatNumW3
import Derived.Test.YtjomgppbialeoaaGreatLongW1
import Derived.Test.YtjomgppbialeoaaGreatLongW6
import Derived.Test.YtjomgppbialeoaaGreatNumOrderW
namespace Go.Proofs.YtjomgppbialeoaaGreat
open Go.RowKit
set_option linter.unusedVariables false
set_option linter.unusedSimpArgs false
theorem head_facts : (nf 5 = 5 ∧ fits64 5 = true) ∧ mdV 7 3 2 = 10 ∧ mdF 7 3 2 = true := by decide +kernel
theorem ret_bool {a b : Bool} (h : a = b) : Ending.returned (.bool a) = .returned (.bool b) := by rw [h]
theorem one_ints (l : List Int) : ∀ u ∈ ints l, u.oneCell' = true := fun u hu => by simp [ints] at hu; obtain ⟨x, _, rfl⟩ := hu; rfl
def SameR (w : World) (n : Nat) (l m : List Int) (i : Value) (wr : World) : Prop := ∃ k : Nat, k ≤ n ∧ i = .int .i64 k ∧ Ext w wr ∧ l.take k = m.take k
theorem plus_num (a b : Int) : sg (plusB (decide (a < 0)) (decide (b < 0)) (absN a) (absN b)) (plusN (decide (a < 0)) (decide (b < 0)) (absN a) (absN b)) = a + b := by rw [sg_plus, sg_abs, sg_abs]
theorem minus_num (a b : Int) : sg (plusB (decide (a < 0)) (!decide (b < 0)) (absN a) (absN b)) (plusN (decide (a < 0)) (!decide (b < 0)) (absN a) (absN b)) = a - b := by
  rw [sg_plus, sg_abs]
  have h : sg (!decide (b < 0)) (absN b) = -b := by
    have := sg_abs b
    unfold sg at *
    by_cases hb : b < 0 <;> simp [hb] at * <;> omega
  omega
theorem big16 (n : Nat) (h : n ≤ 340282366920938463463374607431768211456) : n < 65536 ^ 16 := by omega
end Go.Proofs.YtjomgppbialeoaaGreat
