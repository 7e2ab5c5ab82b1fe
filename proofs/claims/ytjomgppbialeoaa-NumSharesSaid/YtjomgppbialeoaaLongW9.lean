/-
  The walk of the reference's MulDiv, and of the law NumDivs.
-/
import Derived.Test.YtjomgppbialeoaaLongW7
import Derived.Test.YtjomgppbialeoaaLongW1
import Derived.Test.YtjomgppbialeoaaNumW3
namespace Go.Proofs.Ytjomgppbialeoaa
open Go.RowKit
set_option linter.unusedVariables false
set_option linter.unusedSimpArgs false
theorem p256 (p : Nat) (h : p ≤ 85070591730234615865843651857942052864) : p < 2 ^ 256 := by omega
theorem q16 (p z : Nat) (h : p ≤ 85070591730234615865843651857942052864) : p / z < 65536 ^ 16 := Nat.lt_of_le_of_lt (Nat.div_le_self p z) (by omega)
theorem n128 (p : Nat) (h : p ≤ 9223372036854775808) : p ≤ 340282366920938463463374607431768211456 := by omega
end Go.Proofs.Ytjomgppbialeoaa
