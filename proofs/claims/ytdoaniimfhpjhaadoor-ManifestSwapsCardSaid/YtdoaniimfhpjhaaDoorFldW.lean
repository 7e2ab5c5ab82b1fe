/-
  Fields in memory, and the walks of tlv.check and of the reference's Fault.
-/
/-
  The walks of tlv.put and of the reference's One.
-/
import Derived.Test.YtdoaniimfhpjhaaDoorBytesX
import Derived.Test.YtdoaniimfhpjhaaDoorTlvP
import Derived.Test.YtdoaniimfhpjhaaDoorVarW
import Derived.Deep.RegionHeld3
namespace Go.Proofs.YtdoaniimfhpjhaaDoor
open Go.RowKit
set_option linter.unusedVariables false
set_option linter.unusedSimpArgs false
def fcells (f : Fld) (A : Option Addr) (c : Nat) : Array Value := #[.int .i64 f.tag, .bool f.text, .int .u64 (f.num : Nat), .slice A f.bytes.length c]
theorem fcells_size (f : Fld) (A : Option Addr) (c : Nat) : (fcells f A c).size = 4 := rfl
theorem fcells_one (f : Fld) (A : Option Addr) (c : Nat) : ∀ v ∈ (fcells f A c).toList, v.oneCell' = true := by
  intro v hv; simp [fcells] at hv; rcases hv with rfl | rfl | rfl | rfl <;> rfl
theorem ret_i64 {a b : Int} (h : a = b) : Ending.returned (.int .i64 a) = .returned (.int .i64 b) := by rw [h]
def FaultPost (w : World) (f : Fld) (last : Int) (e : Ending) (w' : World) : Prop := e = .returned (.int .i64 (fault f last : Nat)) ∧ Ext w w'
theorem fault_tag {f : Fld} {last : Int} (h : f.tag < 1 ∨ 31 < f.tag) : fault f last = 20 := by unfold fault; rw [if_pos h]
theorem fault_order {f : Fld} {last : Int} (h : ¬ (f.tag < 1 ∨ 31 < f.tag)) (h2 : f.tag ≤ last) : fault f last = 21 := by unfold fault; rw [if_neg h, if_pos h2]
theorem fault_text {f : Fld} {last : Int} (h : ¬ (f.tag < 1 ∨ 31 < f.tag)) (h2 : ¬ f.tag ≤ last) (h3 : f.text = true) : fault f last = if f.bytes.length = 0 then 22 else if 200 < f.bytes.length then 23 else 0 := by
  unfold fault; rw [if_neg h, if_neg h2, if_pos h3]
theorem fault_num {f : Fld} {last : Int} (h : ¬ (f.tag < 1 ∨ 31 < f.tag)) (h2 : ¬ f.tag ≤ last) (h3 : f.text = false) : fault f last = if f.num = 0 then 22 else 0 := by
  unfold fault; rw [if_neg h, if_neg h2, if_neg (by simp [h3])]
end Go.Proofs.YtdoaniimfhpjhaaDoor

namespace Go.Proofs.YtdoaniimfhpjhaaDoor
open Go.RowKit
set_option linter.unusedVariables false
set_option linter.unusedSimpArgs false
theorem one_num (tag : Int) (num : Nat) (bytes : List UInt8) : one ⟨tag, false, num, bytes⟩ = venc (tag.toNat * 2) ++ venc num := rfl
theorem one_text (tag : Int) (num : Nat) (bytes : List UInt8) : one ⟨tag, true, num, bytes⟩ = venc (tag.toNat * 2 + 1) ++ (venc bytes.length ++ bytes) := rfl
end Go.Proofs.YtdoaniimfhpjhaaDoor
