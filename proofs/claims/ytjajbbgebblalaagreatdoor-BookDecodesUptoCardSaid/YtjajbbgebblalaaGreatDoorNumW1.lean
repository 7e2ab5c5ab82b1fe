/-
  The walks of num's wide numbers: widen, plus, narrow, Sum.
-/
import Derived.Test.YtjajbbgebblalaaGreatDoorProg
import Derived.Test.YtjajbbgebblalaaGreatDoorBase
import Derived.Laws.Externs
namespace Go.Proofs.YtjajbbgebblalaaGreatDoor
open Go.RowKit
set_option linter.unusedVariables false
set_option linter.unusedSimpArgs false
/-- The low half of a sum of three. -/
def addLo (x y c : Int) : Int := (x + y + c) % 18446744073709551616
def addHi (x y c : Int) : Int := (x + y + c) / 18446744073709551616
theorem addLo_bd (x y c : Int) : 0 ≤ addLo x y c ∧ addLo x y c < 18446744073709551616 := by unfold addLo; omega
theorem addHi_bd (x y c : Int) (hx : 0 ≤ x) (hx' : x < 18446744073709551616) (hy : 0 ≤ y) (hy' : y < 18446744073709551616) (hc : 0 ≤ c) (hc' : c ≤ 1) : 0 ≤ addHi x y c ∧ addHi x y c ≤ 1 := by unfold addHi; omega
def wHi (v : Int) : Int := IntKind.u64.wrap (v / 9223372036854775808)
def wLo (v : Int) : Int := IntKind.u64.wrap v
/-- The high half of a sum of two wide numbers. -/
def addHi' (a c b d : Int) : Int := addLo a c (addHi b d 0)
/-- What a wide number comes to, where it fits. -/
def wFits (a b : Int) : Bool := decide (a = wHi (wrap64 b))
/-- The number itself, 0 where it doesn't fit. -/
def narrowV (a b : Int) : Int := if wFits a b then wrap64 b else 0
theorem wrap64_bd (b : Int) : -9223372036854775808 ≤ wrap64 b ∧ wrap64 b ≤ 9223372036854775807 := by unfold wrap64; omega
theorem wrap_eq64 (b : Int) : IntKind.i64.wrap b = wrap64 b := by rw [IntKind.wrap_i64]; unfold wrap64; rfl
theorem wrap_i64_bd (b : Int) : -9223372036854775808 ≤ IntKind.i64.wrap b ∧ IntKind.i64.wrap b ≤ 9223372036854775807 := by rw [IntKind.wrap_i64]; omega
/-- The sum of a list as a wide number: high half, low half. -/
def wAdd (p : Int × Int) (v : Int) : Int × Int := (addHi' p.1 (wHi v) p.2 (wLo v), addLo p.2 (wLo v) 0)
def wSum (l : List Int) : Int × Int := l.foldl wAdd (0, 0)
theorem wHi_bd (v : Int) : 0 ≤ wHi v ∧ wHi v < 18446744073709551616 := by unfold wHi; rw [IntKind.wrap_u64]; omega
theorem wLo_bd (v : Int) : 0 ≤ wLo v ∧ wLo v < 18446744073709551616 := by unfold wLo; rw [IntKind.wrap_u64]; omega
theorem wSum_snoc (l : List Int) (v : Int) : wSum (l ++ [v]) = wAdd (wSum l) v := by simp [wSum, List.foldl_append]
theorem wSum_bd (l : List Int) : (0 ≤ (wSum l).1 ∧ (wSum l).1 < 18446744073709551616) ∧ (0 ≤ (wSum l).2 ∧ (wSum l).2 < 18446744073709551616) := by
  have h : ∀ (l : List Int) (p : Int × Int), ((0 ≤ p.1 ∧ p.1 < 18446744073709551616) ∧ (0 ≤ p.2 ∧ p.2 < 18446744073709551616)) →
      ((0 ≤ (l.foldl wAdd p).1 ∧ (l.foldl wAdd p).1 < 18446744073709551616) ∧ (0 ≤ (l.foldl wAdd p).2 ∧ (l.foldl wAdd p).2 < 18446744073709551616)) := by
    intro l
    induction l with
    | nil => intro p hp; exact hp
    | cons v l ih => intro p hp; exact ih _ ⟨addLo_bd _ _ _, addLo_bd _ _ _⟩
  exact h l (0, 0) ⟨⟨by decide, by decide⟩, by decide, by decide⟩
/-- What Sum answers. -/
def sumFits (l : List Int) : Bool := wFits (wSum l).1 (wSum l).2
def sumOf (l : List Int) : Int := narrowV (wSum l).1 (wSum l).2
def I64 (l : List Int) : Prop := ∀ v ∈ l, -9223372036854775808 ≤ v ∧ v ≤ 9223372036854775807
def ints (l : List Int) : List Value := l.map (Value.int .i64)
theorem ntake_snoc (l : List Int) (k : Nat) (h : k < l.length) : l.take (k + 1) = l.take k ++ [l.getD k 0] := by
  rw [List.take_succ_eq_append_getElem h]; simp [List.getD, List.getElem?_eq_getElem h]
end Go.Proofs.YtjajbbgebblalaaGreatDoor
