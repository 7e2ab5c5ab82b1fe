/-
  The walks of tlv.put and of the reference's One.
-/
import Derived.Test.YtjomgppbialeoaaDoorFldW
import Derived.Test.YtjomgppbialeoaaDoorVarW
import Derived.Deep.RegionHeld3
namespace Go.Proofs.YtjomgppbialeoaaDoor
open Go.RowKit
set_option linter.unusedVariables false
set_option linter.unusedSimpArgs false
theorem one_num (tag : Int) (num : Nat) (bytes : List UInt8) : one ⟨tag, false, num, bytes⟩ = venc (tag.toNat * 2) ++ venc num := rfl
theorem one_text (tag : Int) (num : Nat) (bytes : List UInt8) : one ⟨tag, true, num, bytes⟩ = venc (tag.toNat * 2 + 1) ++ (venc bytes.length ++ bytes) := rfl
end Go.Proofs.YtjomgppbialeoaaDoor
