/-
  No cell of these rows narrows 'for every input' (looked for: loops, veiled, ifaces, maps, wideKeys, modest, calm, conditions, laid).
  DERIVED. THE GIVEN ROWS OF THIS SEAT. 10 by the template 'for every input the law returns true; each argument reads behind the call as it read before'; 0 by the template 'total and deterministic' (their statements: YtlpjhnecihhkfaaTotals.lean).
  GIVEN WITH THE SEED: the statements are not yours to turn. If you find one false, say at which input.
  Laid BY PROGRAM, IN A SANDBOX (cutbox-rows.mjs): the forced cells as the released guide's own fill.sh prints them over the translation 2f84e5606feb38bb… (all of the seat's roots in one cut). By AI agents, Wed Nov 11 2026. No macro, syntax, notation, axiom, sorry.
-/
import Derived.Test.YtlpjhnecihhkfaaChecked
import GoSem.Claim
import GoSem.ClaimJoined
import GoSem.ClaimMapViews
import Derived.JoinedTies
import Derived.KernelRfl
namespace Go.Proofs.Ytlpjhnecihhkfaa
/- THE CELL 'sum', in the pinned program and in every row, IS THE sha256 OF THE DUMP (.gsa) THAT YtlpjhnecihhkfaaProg.lean LOADS. Nothing in Lean hashes anything: it is a label: what it is worth is what the hold of that sum in a sandbox is worth. -/
noncomputable def Try.pinned : Pinned := { name := "ytlpjhnecihhkfaa", sum := "2f84e5606feb38bb516bc4b5ed9855c0ec259a34149e5f90b21e10e86bdf3726", checked := Try.checked }
namespace Rows
def none {H : Type} : Left H := { results := [], args := [] }

/-- 'daybooklaw08.OrderAllows': WHATEVER THE INPUT: true; the input reads as it did. -/
def orderAllowsSpec : ChangeSpec := { name := "orderAllows", fn := fun _ => fun
  | [d1, d2] => { results := [.lit (.bool true)], args := [d1, d2] }
  | _ => none }
def orderAllowsRow : OpenClaim := { program := "ytlpjhnecihhkfaa", sum := "2f84e5606feb38bb516bc4b5ed9855c0ec259a34149e5f90b21e10e86bdf3726", func := "daybook/daybooklaw08.OrderAllows", spec := "orderAllows", unfollowed := true, recurses := true, named := ["math/bits.divideError", "math/bits.overflowError"], apart := false }
def OrderAllowsSaid : Prop := orderAllowsRow.holds Try.pinned (OpenSpec.ofChange orderAllowsSpec)

/-- ITS FALSE NEIGHBOUR: 'it returns false'. Refute it at one input. -/
def orderAllowsWrong : ChangeSpec := { name := "orderAllows", fn := fun _ => fun
  | [d1, d2] => { results := [.lit (.bool false)], args := [d1, d2] }
  | _ => none }
def OrderAllowsWrongFalsely : Prop := orderAllowsRow.holds Try.pinned (OpenSpec.ofChange orderAllowsWrong)

/-- 'daybooklaw08.OrderValid': WHATEVER THE INPUT: true; the input reads as it did. -/
def orderValidSpec : ChangeSpec := { name := "orderValid", fn := fun _ => fun
  | [d1, d2] => { results := [.lit (.bool true)], args := [d1, d2] }
  | _ => none }
def orderValidRow : OpenClaim := { program := "ytlpjhnecihhkfaa", sum := "2f84e5606feb38bb516bc4b5ed9855c0ec259a34149e5f90b21e10e86bdf3726", func := "daybook/daybooklaw08.OrderValid", spec := "orderValid", inPlace := ["slices.overlaps[daybook/api.Line]"], unfollowed := true, recurses := true, named := ["math/bits.divideError", "math/bits.overflowError"], apart := false }
def OrderValidSaid : Prop := orderValidRow.holds Try.pinned (OpenSpec.ofChange orderValidSpec)

/-- ITS FALSE NEIGHBOUR: 'it returns false'. Refute it at one input. -/
def orderValidWrong : ChangeSpec := { name := "orderValid", fn := fun _ => fun
  | [d1, d2] => { results := [.lit (.bool false)], args := [d1, d2] }
  | _ => none }
def OrderValidWrongFalsely : Prop := orderValidRow.holds Try.pinned (OpenSpec.ofChange orderValidWrong)

/-- 'daybooklaw08.OrderJudges': WHATEVER THE INPUT: true; the input reads as it did. -/
def orderJudgesSpec : ChangeSpec := { name := "orderJudges", fn := fun _ => fun
  | [d1, d2] => { results := [.lit (.bool true)], args := [d1, d2] }
  | _ => none }
def orderJudgesRow : OpenClaim := { program := "ytlpjhnecihhkfaa", sum := "2f84e5606feb38bb516bc4b5ed9855c0ec259a34149e5f90b21e10e86bdf3726", func := "daybook/daybooklaw08.OrderJudges", spec := "orderJudges", inPlace := ["slices.overlaps[daybook/api.Line]"], unfollowed := true, recurses := true, named := ["math/bits.divideError", "math/bits.overflowError"], apart := false }
def OrderJudgesSaid : Prop := orderJudgesRow.holds Try.pinned (OpenSpec.ofChange orderJudgesSpec)

/-- ITS FALSE NEIGHBOUR: 'it returns false'. Refute it at one input. -/
def orderJudgesWrong : ChangeSpec := { name := "orderJudges", fn := fun _ => fun
  | [d1, d2] => { results := [.lit (.bool false)], args := [d1, d2] }
  | _ => none }
def OrderJudgesWrongFalsely : Prop := orderJudgesRow.holds Try.pinned (OpenSpec.ofChange orderJudgesWrong)

/-- 'daybooklaw08.OrderApplies': WHATEVER THE INPUT: true; the input reads as it did. -/
def orderAppliesSpec : ChangeSpec := { name := "orderApplies", fn := fun _ => fun
  | [d1, d2] => { results := [.lit (.bool true)], args := [d1, d2] }
  | _ => none }
def orderAppliesRow : OpenClaim := { program := "ytlpjhnecihhkfaa", sum := "2f84e5606feb38bb516bc4b5ed9855c0ec259a34149e5f90b21e10e86bdf3726", func := "daybook/daybooklaw08.OrderApplies", spec := "orderApplies", inPlace := ["slices.overlaps[daybook/api.Line]"], unfollowed := true, recurses := true, named := ["math/bits.divideError", "math/bits.overflowError"], apart := false }
def OrderAppliesSaid : Prop := orderAppliesRow.holds Try.pinned (OpenSpec.ofChange orderAppliesSpec)

/-- ITS FALSE NEIGHBOUR: 'it returns false'. Refute it at one input. -/
def orderAppliesWrong : ChangeSpec := { name := "orderApplies", fn := fun _ => fun
  | [d1, d2] => { results := [.lit (.bool false)], args := [d1, d2] }
  | _ => none }
def OrderAppliesWrongFalsely : Prop := orderAppliesRow.holds Try.pinned (OpenSpec.ofChange orderAppliesWrong)

/-- 'daybooklaw08.OrderFolds': WHATEVER THE INPUT: true; the input reads as it did. -/
def orderFoldsSpec : ChangeSpec := { name := "orderFolds", fn := fun _ => fun
  | [d1, d2] => { results := [.lit (.bool true)], args := [d1, d2] }
  | _ => none }
def orderFoldsRow : OpenClaim := { program := "ytlpjhnecihhkfaa", sum := "2f84e5606feb38bb516bc4b5ed9855c0ec259a34149e5f90b21e10e86bdf3726", func := "daybook/daybooklaw08.OrderFolds", spec := "orderFolds", inPlace := ["slices.overlaps[daybook/api.Line]"], unfollowed := true, recurses := true, named := ["math/bits.divideError", "math/bits.overflowError"], apart := false }
def OrderFoldsSaid : Prop := orderFoldsRow.holds Try.pinned (OpenSpec.ofChange orderFoldsSpec)

/-- ITS FALSE NEIGHBOUR: 'it returns false'. Refute it at one input. -/
def orderFoldsWrong : ChangeSpec := { name := "orderFolds", fn := fun _ => fun
  | [d1, d2] => { results := [.lit (.bool false)], args := [d1, d2] }
  | _ => none }
def OrderFoldsWrongFalsely : Prop := orderFoldsRow.holds Try.pinned (OpenSpec.ofChange orderFoldsWrong)

/-- 'daybooklaw08.OrderStays': WHATEVER THE INPUT: true; the input reads as it did. -/
def orderStaysSpec : ChangeSpec := { name := "orderStays", fn := fun _ => fun
  | [d1, d2] => { results := [.lit (.bool true)], args := [d1, d2] }
  | _ => none }
def orderStaysRow : OpenClaim := { program := "ytlpjhnecihhkfaa", sum := "2f84e5606feb38bb516bc4b5ed9855c0ec259a34149e5f90b21e10e86bdf3726", func := "daybook/daybooklaw08.OrderStays", spec := "orderStays", inPlace := ["slices.overlaps[daybook/api.Line]"], unfollowed := true, recurses := true, named := ["math/bits.divideError", "math/bits.overflowError"], apart := false }
def OrderStaysSaid : Prop := orderStaysRow.holds Try.pinned (OpenSpec.ofChange orderStaysSpec)

/-- ITS FALSE NEIGHBOUR: 'it returns false'. Refute it at one input. -/
def orderStaysWrong : ChangeSpec := { name := "orderStays", fn := fun _ => fun
  | [d1, d2] => { results := [.lit (.bool false)], args := [d1, d2] }
  | _ => none }
def OrderStaysWrongFalsely : Prop := orderStaysRow.holds Try.pinned (OpenSpec.ofChange orderStaysWrong)

/-- 'daybooklaw08.OrderCut': WHATEVER THE INPUT: true; the input reads as it did. -/
def orderCutSpec : ChangeSpec := { name := "orderCut", fn := fun _ => fun
  | [d1, d2, d3] => { results := [.lit (.bool true)], args := [d1, d2, d3] }
  | _ => none }
def orderCutRow : OpenClaim := { program := "ytlpjhnecihhkfaa", sum := "2f84e5606feb38bb516bc4b5ed9855c0ec259a34149e5f90b21e10e86bdf3726", func := "daybook/daybooklaw08.OrderCut", spec := "orderCut", inPlace := ["slices.overlaps[daybook/api.Line]"], unfollowed := true, recurses := true, named := ["math/bits.divideError", "math/bits.overflowError"], apart := false }
def OrderCutSaid : Prop := orderCutRow.holds Try.pinned (OpenSpec.ofChange orderCutSpec)

/-- ITS FALSE NEIGHBOUR: 'it returns false'. Refute it at one input. -/
def orderCutWrong : ChangeSpec := { name := "orderCut", fn := fun _ => fun
  | [d1, d2, d3] => { results := [.lit (.bool false)], args := [d1, d2, d3] }
  | _ => none }
def OrderCutWrongFalsely : Prop := orderCutRow.holds Try.pinned (OpenSpec.ofChange orderCutWrong)

/-- 'daybooklaw08.OrderForeign': WHATEVER THE INPUT: true; the input reads as it did. -/
def orderForeignSpec : ChangeSpec := { name := "orderForeign", fn := fun _ => fun
  | [d1, d2] => { results := [.lit (.bool true)], args := [d1, d2] }
  | _ => none }
def orderForeignRow : OpenClaim := { program := "ytlpjhnecihhkfaa", sum := "2f84e5606feb38bb516bc4b5ed9855c0ec259a34149e5f90b21e10e86bdf3726", func := "daybook/daybooklaw08.OrderForeign", spec := "orderForeign", inPlace := ["slices.overlaps[daybook/api.Line]"], unfollowed := true, recurses := true, named := ["math/bits.divideError", "math/bits.overflowError"], apart := false }
def OrderForeignSaid : Prop := orderForeignRow.holds Try.pinned (OpenSpec.ofChange orderForeignSpec)

/-- ITS FALSE NEIGHBOUR: 'it returns false'. Refute it at one input. -/
def orderForeignWrong : ChangeSpec := { name := "orderForeign", fn := fun _ => fun
  | [d1, d2] => { results := [.lit (.bool false)], args := [d1, d2] }
  | _ => none }
def OrderForeignWrongFalsely : Prop := orderForeignRow.holds Try.pinned (OpenSpec.ofChange orderForeignWrong)

/-- 'daybooklaw08.OrderRefuses': WHATEVER THE INPUT: true; the input reads as it did. -/
def orderRefusesSpec : ChangeSpec := { name := "orderRefuses", fn := fun _ => fun
  | [d1, d2] => { results := [.lit (.bool true)], args := [d1, d2] }
  | _ => none }
def orderRefusesRow : OpenClaim := { program := "ytlpjhnecihhkfaa", sum := "2f84e5606feb38bb516bc4b5ed9855c0ec259a34149e5f90b21e10e86bdf3726", func := "daybook/daybooklaw08.OrderRefuses", spec := "orderRefuses", inPlace := ["slices.overlaps[daybook/api.Line]"], unfollowed := true, recurses := true, named := ["math/bits.divideError", "math/bits.overflowError"], apart := false }
def OrderRefusesSaid : Prop := orderRefusesRow.holds Try.pinned (OpenSpec.ofChange orderRefusesSpec)

/-- ITS FALSE NEIGHBOUR: 'it returns false'. Refute it at one input. -/
def orderRefusesWrong : ChangeSpec := { name := "orderRefuses", fn := fun _ => fun
  | [d1, d2] => { results := [.lit (.bool false)], args := [d1, d2] }
  | _ => none }
def OrderRefusesWrongFalsely : Prop := orderRefusesRow.holds Try.pinned (OpenSpec.ofChange orderRefusesWrong)

/-- 'daybooklaw08.OrderMoney': WHATEVER THE INPUT: true; the input reads as it did. -/
def orderMoneySpec : ChangeSpec := { name := "orderMoney", fn := fun _ => fun
  | [d1, d2] => { results := [.lit (.bool true)], args := [d1, d2] }
  | _ => none }
def orderMoneyRow : OpenClaim := { program := "ytlpjhnecihhkfaa", sum := "2f84e5606feb38bb516bc4b5ed9855c0ec259a34149e5f90b21e10e86bdf3726", func := "daybook/daybooklaw08.OrderMoney", spec := "orderMoney", inPlace := ["slices.overlaps[daybook/api.Line]"], unfollowed := true, recurses := true, named := ["math/bits.divideError", "math/bits.overflowError"], apart := false }
def OrderMoneySaid : Prop := orderMoneyRow.holds Try.pinned (OpenSpec.ofChange orderMoneySpec)

/-- ITS FALSE NEIGHBOUR: 'it returns false'. Refute it at one input. -/
def orderMoneyWrong : ChangeSpec := { name := "orderMoney", fn := fun _ => fun
  | [d1, d2] => { results := [.lit (.bool false)], args := [d1, d2] }
  | _ => none }
def OrderMoneyWrongFalsely : Prop := orderMoneyRow.holds Try.pinned (OpenSpec.ofChange orderMoneyWrong)

/- THE SECOND FORM. 'bulk': how many values and letters a reading holds, each counted each time it is reached (what is shared counts as often as it is met; a slice's spare places count too). A statement '..UptoSaid' is the law's where the arguments, and the package variables that the reading takes, are together of bulk at most 1048576: NARROWER than '..Said'. Prove '..Said' where nothing that the law and all that it calls make is longer than what came in: it says more and counts as full. Else prove '..UptoSaid'. A law counts once. -/
mutual
def uptoBulk {H : Type} : DataW H → Nat
  | .lit (.string bytes) => bytes.length + 1
  | .lit _ => 1
  | .nil => 1
  | .ptr d => uptoBulk d + 1
  | .slice elems spare => uptoBulkAll elems + uptoBulkAll spare + 1
  | .agg parts => uptoBulkAll parts + 1
  | .iface _ d => uptoBulk d + 1
  | .map entries => uptoBulkEntries entries + 1
  | .held _ => 1
def uptoBulkAll {H : Type} : List (DataW H) → Nat
  | [] => 0
  | d :: r => uptoBulk d + uptoBulkAll r
def uptoBulkEntries {H : Type} : List (Lit × DataW H) → Nat
  | [] => 0
  | x :: r => uptoBulkEntry x + uptoBulkEntries r
def uptoBulkEntry {H : Type} : Lit × DataW H → Nat
  | (.string bytes, d) => bytes.length + uptoBulk d + 1
  | (_, d) => uptoBulk d + 1
 end
def uptoSmall : (H : Type) → List (DataW H) → Bool := fun _ ds => decide (uptoBulkAll ds ≤ 1048576)
def OpenSpec.upto (s : _root_.Go.ChangeSpec) : _root_.Go.OpenSpec := { _root_.Go.OpenSpec.ofChange s with cond := some uptoSmall }

/-- 'daybooklaw08.OrderAllows', WHERE WHAT IT READS IS OF BULK AT MOST 1048576: true; the input reads as it did. -/
def orderAllowsUptoRow : OpenClaim := { program := "ytlpjhnecihhkfaa", sum := "2f84e5606feb38bb516bc4b5ed9855c0ec259a34149e5f90b21e10e86bdf3726", func := "daybook/daybooklaw08.OrderAllows", spec := "orderAllows", unfollowed := true, recurses := true, named := ["math/bits.divideError", "math/bits.overflowError"], apart := false, narrowed := true }
def OrderAllowsUptoSaid : Prop := orderAllowsUptoRow.holds Try.pinned (OpenSpec.upto orderAllowsSpec)

/-- 'daybooklaw08.OrderValid', WHERE WHAT IT READS IS OF BULK AT MOST 1048576: true; the input reads as it did. -/
def orderValidUptoRow : OpenClaim := { program := "ytlpjhnecihhkfaa", sum := "2f84e5606feb38bb516bc4b5ed9855c0ec259a34149e5f90b21e10e86bdf3726", func := "daybook/daybooklaw08.OrderValid", spec := "orderValid", inPlace := ["slices.overlaps[daybook/api.Line]"], unfollowed := true, recurses := true, named := ["math/bits.divideError", "math/bits.overflowError"], apart := false, narrowed := true }
def OrderValidUptoSaid : Prop := orderValidUptoRow.holds Try.pinned (OpenSpec.upto orderValidSpec)

/-- 'daybooklaw08.OrderJudges', WHERE WHAT IT READS IS OF BULK AT MOST 1048576: true; the input reads as it did. -/
def orderJudgesUptoRow : OpenClaim := { program := "ytlpjhnecihhkfaa", sum := "2f84e5606feb38bb516bc4b5ed9855c0ec259a34149e5f90b21e10e86bdf3726", func := "daybook/daybooklaw08.OrderJudges", spec := "orderJudges", inPlace := ["slices.overlaps[daybook/api.Line]"], unfollowed := true, recurses := true, named := ["math/bits.divideError", "math/bits.overflowError"], apart := false, narrowed := true }
def OrderJudgesUptoSaid : Prop := orderJudgesUptoRow.holds Try.pinned (OpenSpec.upto orderJudgesSpec)

/-- 'daybooklaw08.OrderApplies', WHERE WHAT IT READS IS OF BULK AT MOST 1048576: true; the input reads as it did. -/
def orderAppliesUptoRow : OpenClaim := { program := "ytlpjhnecihhkfaa", sum := "2f84e5606feb38bb516bc4b5ed9855c0ec259a34149e5f90b21e10e86bdf3726", func := "daybook/daybooklaw08.OrderApplies", spec := "orderApplies", inPlace := ["slices.overlaps[daybook/api.Line]"], unfollowed := true, recurses := true, named := ["math/bits.divideError", "math/bits.overflowError"], apart := false, narrowed := true }
def OrderAppliesUptoSaid : Prop := orderAppliesUptoRow.holds Try.pinned (OpenSpec.upto orderAppliesSpec)

/-- 'daybooklaw08.OrderFolds', WHERE WHAT IT READS IS OF BULK AT MOST 1048576: true; the input reads as it did. -/
def orderFoldsUptoRow : OpenClaim := { program := "ytlpjhnecihhkfaa", sum := "2f84e5606feb38bb516bc4b5ed9855c0ec259a34149e5f90b21e10e86bdf3726", func := "daybook/daybooklaw08.OrderFolds", spec := "orderFolds", inPlace := ["slices.overlaps[daybook/api.Line]"], unfollowed := true, recurses := true, named := ["math/bits.divideError", "math/bits.overflowError"], apart := false, narrowed := true }
def OrderFoldsUptoSaid : Prop := orderFoldsUptoRow.holds Try.pinned (OpenSpec.upto orderFoldsSpec)

/-- 'daybooklaw08.OrderStays', WHERE WHAT IT READS IS OF BULK AT MOST 1048576: true; the input reads as it did. -/
def orderStaysUptoRow : OpenClaim := { program := "ytlpjhnecihhkfaa", sum := "2f84e5606feb38bb516bc4b5ed9855c0ec259a34149e5f90b21e10e86bdf3726", func := "daybook/daybooklaw08.OrderStays", spec := "orderStays", inPlace := ["slices.overlaps[daybook/api.Line]"], unfollowed := true, recurses := true, named := ["math/bits.divideError", "math/bits.overflowError"], apart := false, narrowed := true }
def OrderStaysUptoSaid : Prop := orderStaysUptoRow.holds Try.pinned (OpenSpec.upto orderStaysSpec)

/-- 'daybooklaw08.OrderCut', WHERE WHAT IT READS IS OF BULK AT MOST 1048576: true; the input reads as it did. -/
def orderCutUptoRow : OpenClaim := { program := "ytlpjhnecihhkfaa", sum := "2f84e5606feb38bb516bc4b5ed9855c0ec259a34149e5f90b21e10e86bdf3726", func := "daybook/daybooklaw08.OrderCut", spec := "orderCut", inPlace := ["slices.overlaps[daybook/api.Line]"], unfollowed := true, recurses := true, named := ["math/bits.divideError", "math/bits.overflowError"], apart := false, narrowed := true }
def OrderCutUptoSaid : Prop := orderCutUptoRow.holds Try.pinned (OpenSpec.upto orderCutSpec)

/-- 'daybooklaw08.OrderForeign', WHERE WHAT IT READS IS OF BULK AT MOST 1048576: true; the input reads as it did. -/
def orderForeignUptoRow : OpenClaim := { program := "ytlpjhnecihhkfaa", sum := "2f84e5606feb38bb516bc4b5ed9855c0ec259a34149e5f90b21e10e86bdf3726", func := "daybook/daybooklaw08.OrderForeign", spec := "orderForeign", inPlace := ["slices.overlaps[daybook/api.Line]"], unfollowed := true, recurses := true, named := ["math/bits.divideError", "math/bits.overflowError"], apart := false, narrowed := true }
def OrderForeignUptoSaid : Prop := orderForeignUptoRow.holds Try.pinned (OpenSpec.upto orderForeignSpec)

/-- 'daybooklaw08.OrderRefuses', WHERE WHAT IT READS IS OF BULK AT MOST 1048576: true; the input reads as it did. -/
def orderRefusesUptoRow : OpenClaim := { program := "ytlpjhnecihhkfaa", sum := "2f84e5606feb38bb516bc4b5ed9855c0ec259a34149e5f90b21e10e86bdf3726", func := "daybook/daybooklaw08.OrderRefuses", spec := "orderRefuses", inPlace := ["slices.overlaps[daybook/api.Line]"], unfollowed := true, recurses := true, named := ["math/bits.divideError", "math/bits.overflowError"], apart := false, narrowed := true }
def OrderRefusesUptoSaid : Prop := orderRefusesUptoRow.holds Try.pinned (OpenSpec.upto orderRefusesSpec)

/-- 'daybooklaw08.OrderMoney', WHERE WHAT IT READS IS OF BULK AT MOST 1048576: true; the input reads as it did. -/
def orderMoneyUptoRow : OpenClaim := { program := "ytlpjhnecihhkfaa", sum := "2f84e5606feb38bb516bc4b5ed9855c0ec259a34149e5f90b21e10e86bdf3726", func := "daybook/daybooklaw08.OrderMoney", spec := "orderMoney", inPlace := ["slices.overlaps[daybook/api.Line]"], unfollowed := true, recurses := true, named := ["math/bits.divideError", "math/bits.overflowError"], apart := false, narrowed := true }
def OrderMoneyUptoSaid : Prop := orderMoneyUptoRow.holds Try.pinned (OpenSpec.upto orderMoneySpec)

end Rows
end Go.Proofs.Ytlpjhnecihhkfaa
