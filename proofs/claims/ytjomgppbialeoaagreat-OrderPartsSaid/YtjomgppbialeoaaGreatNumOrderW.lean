/-
  The walk of the law NumOrder.
-/
import Derived.Test.YtjomgppbialeoaaGreatNumW2
import Derived.Test.YtjomgppbialeoaaGreatNumP
namespace Go.Proofs.YtjomgppbialeoaaGreat
open Go.RowKit
set_option linter.unusedVariables false
set_option linter.unusedSimpArgs false
theorem el_i64 : Elem Tryz.prog 2 (.int .i64 0) 1 8 := ⟨by kernel_rfl, rfl, by decide⟩
theorem test4 : sumOf [4, -6] = -2 ∧ sumFits [4, -6] = true := by decide +kernel
/-- The relation of the loop that turns the list round. -/
def OrdR (w : World) (base n : Nat) (l : List Int) (v i : Value) (wr : World) : Prop :=
  ∃ k : Nat, k ≤ n ∧ i = .int .i64 ((n : Int) - 1 - k) ∧ Ext w wr ∧ base ≤ wr.heap.size ∧ wr.ownsRow base 2 1 v k (ints (l.reverse.take k))
theorem rev_snoc (l : List Int) (k : Nat) (h : k < l.length) : ints (l.reverse.take (k + 1)) = ints (l.reverse.take k) ++ [.int .i64 (l.getD (l.length - 1 - k) 0)] := by
  rw [List.take_succ_eq_append_getElem (by simpa using h)]
  simp [ints, List.getD, List.getElem?_eq_getElem (show l.length - 1 - k < l.length by omega)]
end Go.Proofs.YtjomgppbialeoaaGreat
