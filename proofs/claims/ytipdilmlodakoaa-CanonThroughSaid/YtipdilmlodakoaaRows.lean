/-
  No cell of these rows narrows 'for every input' (looked for: loops, veiled, ifaces, maps, wideKeys, modest, calm, conditions, laid).
  DERIVED. THE GIVEN ROWS OF THIS SEAT. 5 by the template 'for every input the law returns true; each argument reads behind the call as it read before'; 0 by the template 'total and deterministic' (their statements: YtipdilmlodakoaaTotals.lean).
  GIVEN WITH THE SEED: the statements are not yours to turn. If you find one false, say at which input.
  Laid BY PROGRAM, IN A SANDBOX (cutbox-rows.mjs): the forced cells as the released guide's own fill.sh prints them over the translation 462e58b755f97e0f… (all of the seat's roots in one cut). By AI agents, Wed Nov 11 2026. No macro, syntax, notation, axiom, sorry.
-/
import Derived.Test.YtipdilmlodakoaaChecked
import GoSem.Claim
import GoSem.ClaimJoined
import GoSem.ClaimMapViews
import Derived.JoinedTies
import Derived.KernelRfl
namespace Go.Proofs.Ytipdilmlodakoaa
/- THE CELL 'sum', in the pinned program and in every row, IS THE sha256 OF THE DUMP (.gsa) THAT YtipdilmlodakoaaProg.lean LOADS. Nothing in Lean hashes anything: it is a label: what it is worth is what the hold of that sum in a sandbox is worth. -/
noncomputable def Try.pinned : Pinned := { name := "ytipdilmlodakoaa", sum := "462e58b755f97e0fa71872b165da290e2bd0289cfe6040622188cd0a047bcf7e", checked := Try.checked }
namespace Rows
def none {H : Type} : Left H := { results := [], args := [] }

/-- 'daybooklaw09.CanonDecodes': WHATEVER THE INPUT: true; the input reads as it did. -/
def canonDecodesSpec : ChangeSpec := { name := "canonDecodes", fn := fun _ => fun
  | [d] => { results := [.lit (.bool true)], args := [d] }
  | _ => none }
def canonDecodesRow : OpenClaim := { program := "ytipdilmlodakoaa", sum := "462e58b755f97e0fa71872b165da290e2bd0289cfe6040622188cd0a047bcf7e", func := "daybook/daybooklaw09.CanonDecodes", spec := "canonDecodes", unfollowed := true, recurses := true, named := ["math/bits.divideError", "math/bits.overflowError"], apart := false }
def CanonDecodesSaid : Prop := canonDecodesRow.holds Try.pinned (OpenSpec.ofChange canonDecodesSpec)

/-- ITS FALSE NEIGHBOUR: 'it returns false'. Refute it at one input. -/
def canonDecodesWrong : ChangeSpec := { name := "canonDecodes", fn := fun _ => fun
  | [d] => { results := [.lit (.bool false)], args := [d] }
  | _ => none }
def CanonDecodesWrongFalsely : Prop := canonDecodesRow.holds Try.pinned (OpenSpec.ofChange canonDecodesWrong)

/-- 'daybooklaw09.CanonBack': WHATEVER THE INPUT: true; the input reads as it did. -/
def canonBackSpec : ChangeSpec := { name := "canonBack", fn := fun _ => fun
  | [d] => { results := [.lit (.bool true)], args := [d] }
  | _ => none }
def canonBackRow : OpenClaim := { program := "ytipdilmlodakoaa", sum := "462e58b755f97e0fa71872b165da290e2bd0289cfe6040622188cd0a047bcf7e", func := "daybook/daybooklaw09.CanonBack", spec := "canonBack", unfollowed := true, recurses := true, named := ["math/bits.divideError", "math/bits.overflowError"], apart := false }
def CanonBackSaid : Prop := canonBackRow.holds Try.pinned (OpenSpec.ofChange canonBackSpec)

/-- ITS FALSE NEIGHBOUR: 'it returns false'. Refute it at one input. -/
def canonBackWrong : ChangeSpec := { name := "canonBack", fn := fun _ => fun
  | [d] => { results := [.lit (.bool false)], args := [d] }
  | _ => none }
def CanonBackWrongFalsely : Prop := canonBackRow.holds Try.pinned (OpenSpec.ofChange canonBackWrong)

/-- 'daybooklaw09.CanonOneForm': WHATEVER THE INPUT: true; the input reads as it did. -/
def canonOneFormSpec : ChangeSpec := { name := "canonOneForm", fn := fun _ => fun
  | [d] => { results := [.lit (.bool true)], args := [d] }
  | _ => none }
def canonOneFormRow : OpenClaim := { program := "ytipdilmlodakoaa", sum := "462e58b755f97e0fa71872b165da290e2bd0289cfe6040622188cd0a047bcf7e", func := "daybook/daybooklaw09.CanonOneForm", spec := "canonOneForm", unfollowed := true, recurses := true, named := ["math/bits.divideError", "math/bits.overflowError"], apart := false }
def CanonOneFormSaid : Prop := canonOneFormRow.holds Try.pinned (OpenSpec.ofChange canonOneFormSpec)

/-- ITS FALSE NEIGHBOUR: 'it returns false'. Refute it at one input. -/
def canonOneFormWrong : ChangeSpec := { name := "canonOneForm", fn := fun _ => fun
  | [d] => { results := [.lit (.bool false)], args := [d] }
  | _ => none }
def CanonOneFormWrongFalsely : Prop := canonOneFormRow.holds Try.pinned (OpenSpec.ofChange canonOneFormWrong)

/-- 'daybooklaw09.CanonUnlike': WHATEVER THE INPUT: true; the input reads as it did. -/
def canonUnlikeSpec : ChangeSpec := { name := "canonUnlike", fn := fun _ => fun
  | [d1, d2] => { results := [.lit (.bool true)], args := [d1, d2] }
  | _ => none }
def canonUnlikeRow : OpenClaim := { program := "ytipdilmlodakoaa", sum := "462e58b755f97e0fa71872b165da290e2bd0289cfe6040622188cd0a047bcf7e", func := "daybook/daybooklaw09.CanonUnlike", spec := "canonUnlike", unfollowed := true, recurses := true, named := ["math/bits.divideError", "math/bits.overflowError"], apart := false }
def CanonUnlikeSaid : Prop := canonUnlikeRow.holds Try.pinned (OpenSpec.ofChange canonUnlikeSpec)

/-- ITS FALSE NEIGHBOUR: 'it returns false'. Refute it at one input. -/
def canonUnlikeWrong : ChangeSpec := { name := "canonUnlike", fn := fun _ => fun
  | [d1, d2] => { results := [.lit (.bool false)], args := [d1, d2] }
  | _ => none }
def CanonUnlikeWrongFalsely : Prop := canonUnlikeRow.holds Try.pinned (OpenSpec.ofChange canonUnlikeWrong)

/-- 'daybooklaw09.CanonThrough': WHATEVER THE INPUT: true; the input reads as it did. -/
def canonThroughSpec : ChangeSpec := { name := "canonThrough", fn := fun _ => fun
  | [d1, d2, d3] => { results := [.lit (.bool true)], args := [d1, d2, d3] }
  | _ => none }
def canonThroughRow : OpenClaim := { program := "ytipdilmlodakoaa", sum := "462e58b755f97e0fa71872b165da290e2bd0289cfe6040622188cd0a047bcf7e", func := "daybook/daybooklaw09.CanonThrough", spec := "canonThrough", inPlace := ["slices.overlaps[daybook/api.Line]"], unfollowed := true, recurses := true, named := ["math/bits.divideError", "math/bits.overflowError"], apart := false }
def CanonThroughSaid : Prop := canonThroughRow.holds Try.pinned (OpenSpec.ofChange canonThroughSpec)

/-- ITS FALSE NEIGHBOUR: 'it returns false'. Refute it at one input. -/
def canonThroughWrong : ChangeSpec := { name := "canonThrough", fn := fun _ => fun
  | [d1, d2, d3] => { results := [.lit (.bool false)], args := [d1, d2, d3] }
  | _ => none }
def CanonThroughWrongFalsely : Prop := canonThroughRow.holds Try.pinned (OpenSpec.ofChange canonThroughWrong)

/- THE SECOND FORM. 'bulk': how many values and letters a reading holds, each counted each time it is reached (what is shared counts as often as it is met; a slice's spare places count too). A statement '..UptoSaid' is the law's where the arguments, and the package variables that the reading takes, are together of bulk at most 1048576: NARROWER than '..Said'. Prove '..Said' where nothing that the law and all that it calls make is longer than what came in: it says more and counts as full. Else prove '..UptoSaid'. A law counts once. -/
mutual
def uptoBulk {H : Type} : DataW H → Nat
  | .lit (.string bytes) => bytes.length + 1
  | .lit _ => 1
  | .nil => 1
  | .ptr d => uptoBulk d + 1
  | .slice elems spare => uptoBulkAll elems + uptoBulkAll spare + 1
  | .agg parts => uptoBulkAll parts + 1
  | .iface _ d => uptoBulk d + 1
  | .map entries => uptoBulkEntries entries + 1
  | .held _ => 1
def uptoBulkAll {H : Type} : List (DataW H) → Nat
  | [] => 0
  | d :: r => uptoBulk d + uptoBulkAll r
def uptoBulkEntries {H : Type} : List (Lit × DataW H) → Nat
  | [] => 0
  | x :: r => uptoBulkEntry x + uptoBulkEntries r
def uptoBulkEntry {H : Type} : Lit × DataW H → Nat
  | (.string bytes, d) => bytes.length + uptoBulk d + 1
  | (_, d) => uptoBulk d + 1
 end
def uptoSmall : (H : Type) → List (DataW H) → Bool := fun _ ds => decide (uptoBulkAll ds ≤ 1048576)
def OpenSpec.upto (s : _root_.Go.ChangeSpec) : _root_.Go.OpenSpec := { _root_.Go.OpenSpec.ofChange s with cond := some uptoSmall }

/-- 'daybooklaw09.CanonDecodes', WHERE WHAT IT READS IS OF BULK AT MOST 1048576: true; the input reads as it did. -/
def canonDecodesUptoRow : OpenClaim := { program := "ytipdilmlodakoaa", sum := "462e58b755f97e0fa71872b165da290e2bd0289cfe6040622188cd0a047bcf7e", func := "daybook/daybooklaw09.CanonDecodes", spec := "canonDecodes", unfollowed := true, recurses := true, named := ["math/bits.divideError", "math/bits.overflowError"], apart := false, narrowed := true }
def CanonDecodesUptoSaid : Prop := canonDecodesUptoRow.holds Try.pinned (OpenSpec.upto canonDecodesSpec)

/-- 'daybooklaw09.CanonBack', WHERE WHAT IT READS IS OF BULK AT MOST 1048576: true; the input reads as it did. -/
def canonBackUptoRow : OpenClaim := { program := "ytipdilmlodakoaa", sum := "462e58b755f97e0fa71872b165da290e2bd0289cfe6040622188cd0a047bcf7e", func := "daybook/daybooklaw09.CanonBack", spec := "canonBack", unfollowed := true, recurses := true, named := ["math/bits.divideError", "math/bits.overflowError"], apart := false, narrowed := true }
def CanonBackUptoSaid : Prop := canonBackUptoRow.holds Try.pinned (OpenSpec.upto canonBackSpec)

/-- 'daybooklaw09.CanonOneForm', WHERE WHAT IT READS IS OF BULK AT MOST 1048576: true; the input reads as it did. -/
def canonOneFormUptoRow : OpenClaim := { program := "ytipdilmlodakoaa", sum := "462e58b755f97e0fa71872b165da290e2bd0289cfe6040622188cd0a047bcf7e", func := "daybook/daybooklaw09.CanonOneForm", spec := "canonOneForm", unfollowed := true, recurses := true, named := ["math/bits.divideError", "math/bits.overflowError"], apart := false, narrowed := true }
def CanonOneFormUptoSaid : Prop := canonOneFormUptoRow.holds Try.pinned (OpenSpec.upto canonOneFormSpec)

/-- 'daybooklaw09.CanonUnlike', WHERE WHAT IT READS IS OF BULK AT MOST 1048576: true; the input reads as it did. -/
def canonUnlikeUptoRow : OpenClaim := { program := "ytipdilmlodakoaa", sum := "462e58b755f97e0fa71872b165da290e2bd0289cfe6040622188cd0a047bcf7e", func := "daybook/daybooklaw09.CanonUnlike", spec := "canonUnlike", unfollowed := true, recurses := true, named := ["math/bits.divideError", "math/bits.overflowError"], apart := false, narrowed := true }
def CanonUnlikeUptoSaid : Prop := canonUnlikeUptoRow.holds Try.pinned (OpenSpec.upto canonUnlikeSpec)

/-- 'daybooklaw09.CanonThrough', WHERE WHAT IT READS IS OF BULK AT MOST 1048576: true; the input reads as it did. -/
def canonThroughUptoRow : OpenClaim := { program := "ytipdilmlodakoaa", sum := "462e58b755f97e0fa71872b165da290e2bd0289cfe6040622188cd0a047bcf7e", func := "daybook/daybooklaw09.CanonThrough", spec := "canonThrough", inPlace := ["slices.overlaps[daybook/api.Line]"], unfollowed := true, recurses := true, named := ["math/bits.divideError", "math/bits.overflowError"], apart := false, narrowed := true }
def CanonThroughUptoSaid : Prop := canonThroughUptoRow.holds Try.pinned (OpenSpec.upto canonThroughSpec)

end Rows
end Go.Proofs.Ytipdilmlodakoaa
