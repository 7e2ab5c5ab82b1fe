/-
  The walks of num's size, signed, Add, Sub, Mul, MulDiv.
-/
import Derived.Test.YtjomgppbialeoaaNumW2
import Derived.Test.YtjomgppbialeoaaNumP
import Derived.Test.YtjomgppbialeoaaLongP
import Derived.Test.YtjomgppbialeoaaDivW
namespace Go.Proofs.Ytjomgppbialeoaa
open Go.RowKit
set_option linter.unusedVariables false
set_option linter.unusedSimpArgs false
theorem big8 (n : Nat) (h : n ≤ 9223372036854775808) : n < 65536 ^ 8 := by omega
theorem absN_lt (v : Int) (h0 : -9223372036854775808 ≤ v) (h1 : v ≤ 9223372036854775807) : absN v ≤ 9223372036854775808 := by unfold absN; omega
theorem ret_ib {k : IntKind} {a b : Int} {x y : Bool} (h : a = b) (h2 : x = y) : Ending.returned (.tuple #[.int k a, .bool x]) = .returned (.tuple #[.int k b, .bool y]) := by rw [h, h2]
theorem w_hi (v : Int) (h0 : -9223372036854775808 ≤ v) (h1 : v ≤ 9223372036854775807) : wHi v = v % 340282366920938463463374607431768211456 / 18446744073709551616 := by rw [wHi_eq v h0 h1]; split <;> omega
theorem w_lo (v : Int) (h0 : -9223372036854775808 ≤ v) (h1 : v ≤ 9223372036854775807) : wLo v = v % 340282366920938463463374607431768211456 % 18446744073709551616 := by unfold wLo; rw [IntKind.wrap_u64]; omega
theorem nar_eq (s : Int) (h0 : -85070591730234615865843651857942052864 ≤ s) (h1 : s ≤ 85070591730234615865843651857942052864) :
    narrowV (s % 340282366920938463463374607431768211456 / 18446744073709551616) (s % 340282366920938463463374607431768211456 % 18446744073709551616) = nf s := by
  unfold narrowV nf
  rw [wFits_iff _ h0 h1]
  split
  · rename_i h
    have := of_decide_eq_true h
    unfold wrap64
    omega
  · rfl
theorem sg_xor (a b : Bool) (m n : Nat) : sg a m * sg b n = sg (a != b) (m * n) := by
  cases a <;> cases b <;> simp [sg, Int.neg_mul, Int.mul_neg]
theorem sg_mul (a b : Int) : sg (decide (a < 0) != decide (b < 0)) (absN a * absN b) = a * b := by
  rw [← sg_xor, sg_abs, sg_abs]
theorem prod_lt (m n : Nat) (hm : m ≤ 9223372036854775808) (hn : n ≤ 9223372036854775808) : m * n ≤ 85070591730234615865843651857942052864 := by
  have h : m * n ≤ 9223372036854775808 * 9223372036854775808 := Nat.mul_le_mul hm hn
  omega
theorem quot_lt (hi lo z : Nat) (h : hi < z) (hlo : lo < 18446744073709551616) : hi * 18446744073709551616 + lo < 18446744073709551616 * z := by omega
theorem quot_ge (hi lo z : Nat) (h : z ≤ hi) : 9223372036854775809 * z ≤ hi * 18446744073709551616 + lo := by omega
/-- a times b over d, cut: its sign and size. -/
def mdQ (a b d : Int) : Int := sg ((decide (a < 0) != decide (b < 0)) != decide (d < 0)) (absN a * absN b / absN d)
def mdF (a b d : Int) : Bool := if d = 0 then false else fits64 (mdQ a b d)
def mdV (a b d : Int) : Int := if mdF a b d then mdQ a b d else 0
end Go.Proofs.Ytjomgppbialeoaa
