/-
  No cell of these rows narrows 'for every input' (looked for: loops, veiled, ifaces, maps, wideKeys, modest, calm, conditions, laid).
  DERIVED. THE GIVEN ROWS OF THIS SEAT. 9 by the template 'for every input the law returns true; each argument reads behind the call as it read before'; 0 by the template 'total and deterministic' (their statements: YtcekdfhbbfednaaTotals.lean).
  GIVEN WITH THE SEED: the statements are not yours to turn. If you find one false, say at which input.
  Laid BY PROGRAM, IN A SANDBOX (cutbox-rows.mjs): the forced cells as the released guide's own fill.sh prints them over the translation ccff82ddbb5c358a… (all of the seat's roots in one cut). By AI agents, Wed Nov 11 2026. No macro, syntax, notation, axiom, sorry.
-/
import Derived.Test.YtcekdfhbbfednaaChecked
import GoSem.Claim
import GoSem.ClaimJoined
import GoSem.ClaimMapViews
import Derived.JoinedTies
import Derived.KernelRfl
namespace Go.Proofs.Ytcekdfhbbfednaa
/- THE CELL 'sum', in the pinned program and in every row, IS THE sha256 OF THE DUMP (.gsa) THAT YtcekdfhbbfednaaProg.lean LOADS. Nothing in Lean hashes anything: it is a label: what it is worth is what the hold of that sum in a sandbox is worth. -/
noncomputable def Try.pinned : Pinned := { name := "ytcekdfhbbfednaa", sum := "ccff82ddbb5c358ac8c04d46a526b62cae07ae757b72f80fb3d864e3836a0fdd", checked := Try.checked }
namespace Rows
def none {H : Type} : Left H := { results := [], args := [] }

/-- 'daybooklaw05.TlvMust': WHATEVER THE INPUT: true; the input reads as it did. -/
def tlvMustSpec : ChangeSpec := { name := "tlvMust", fn := fun _ => fun
  | [d] => { results := [.lit (.bool true)], args := [d] }
  | _ => none }
def tlvMustRow : OpenClaim := { program := "ytcekdfhbbfednaa", sum := "ccff82ddbb5c358ac8c04d46a526b62cae07ae757b72f80fb3d864e3836a0fdd", func := "daybook/daybooklaw05.TlvMust", spec := "tlvMust", unfollowed := true, recurses := true, apart := false }
def TlvMustSaid : Prop := tlvMustRow.holds Try.pinned (OpenSpec.ofChange tlvMustSpec)

/-- ITS FALSE NEIGHBOUR: 'it returns false'. Refute it at one input. -/
def tlvMustWrong : ChangeSpec := { name := "tlvMust", fn := fun _ => fun
  | [d] => { results := [.lit (.bool false)], args := [d] }
  | _ => none }
def TlvMustWrongFalsely : Prop := tlvMustRow.holds Try.pinned (OpenSpec.ofChange tlvMustWrong)

/-- 'daybooklaw05.TlvEncodes': WHATEVER THE INPUT: true; the input reads as it did. -/
def tlvEncodesSpec : ChangeSpec := { name := "tlvEncodes", fn := fun _ => fun
  | [d] => { results := [.lit (.bool true)], args := [d] }
  | _ => none }
def tlvEncodesRow : OpenClaim := { program := "ytcekdfhbbfednaa", sum := "ccff82ddbb5c358ac8c04d46a526b62cae07ae757b72f80fb3d864e3836a0fdd", func := "daybook/daybooklaw05.TlvEncodes", spec := "tlvEncodes", unfollowed := true, recurses := true, apart := false }
def TlvEncodesSaid : Prop := tlvEncodesRow.holds Try.pinned (OpenSpec.ofChange tlvEncodesSpec)

/-- ITS FALSE NEIGHBOUR: 'it returns false'. Refute it at one input. -/
def tlvEncodesWrong : ChangeSpec := { name := "tlvEncodes", fn := fun _ => fun
  | [d] => { results := [.lit (.bool false)], args := [d] }
  | _ => none }
def TlvEncodesWrongFalsely : Prop := tlvEncodesRow.holds Try.pinned (OpenSpec.ofChange tlvEncodesWrong)

/-- 'daybooklaw05.TlvDecodes': WHATEVER THE INPUT: true; the input reads as it did. -/
def tlvDecodesSpec : ChangeSpec := { name := "tlvDecodes", fn := fun _ => fun
  | [d] => { results := [.lit (.bool true)], args := [d] }
  | _ => none }
def tlvDecodesRow : OpenClaim := { program := "ytcekdfhbbfednaa", sum := "ccff82ddbb5c358ac8c04d46a526b62cae07ae757b72f80fb3d864e3836a0fdd", func := "daybook/daybooklaw05.TlvDecodes", spec := "tlvDecodes", unfollowed := true, recurses := true, apart := false }
def TlvDecodesSaid : Prop := tlvDecodesRow.holds Try.pinned (OpenSpec.ofChange tlvDecodesSpec)

/-- ITS FALSE NEIGHBOUR: 'it returns false'. Refute it at one input. -/
def tlvDecodesWrong : ChangeSpec := { name := "tlvDecodes", fn := fun _ => fun
  | [d] => { results := [.lit (.bool false)], args := [d] }
  | _ => none }
def TlvDecodesWrongFalsely : Prop := tlvDecodesRow.holds Try.pinned (OpenSpec.ofChange tlvDecodesWrong)

/-- 'daybooklaw05.TlvBack': WHATEVER THE INPUT: true; the input reads as it did. -/
def tlvBackSpec : ChangeSpec := { name := "tlvBack", fn := fun _ => fun
  | [d] => { results := [.lit (.bool true)], args := [d] }
  | _ => none }
def tlvBackRow : OpenClaim := { program := "ytcekdfhbbfednaa", sum := "ccff82ddbb5c358ac8c04d46a526b62cae07ae757b72f80fb3d864e3836a0fdd", func := "daybook/daybooklaw05.TlvBack", spec := "tlvBack", unfollowed := true, recurses := true, apart := false }
def TlvBackSaid : Prop := tlvBackRow.holds Try.pinned (OpenSpec.ofChange tlvBackSpec)

/-- ITS FALSE NEIGHBOUR: 'it returns false'. Refute it at one input. -/
def tlvBackWrong : ChangeSpec := { name := "tlvBack", fn := fun _ => fun
  | [d] => { results := [.lit (.bool false)], args := [d] }
  | _ => none }
def TlvBackWrongFalsely : Prop := tlvBackRow.holds Try.pinned (OpenSpec.ofChange tlvBackWrong)

/-- 'daybooklaw05.TlvOneForm': WHATEVER THE INPUT: true; the input reads as it did. -/
def tlvOneFormSpec : ChangeSpec := { name := "tlvOneForm", fn := fun _ => fun
  | [d] => { results := [.lit (.bool true)], args := [d] }
  | _ => none }
def tlvOneFormRow : OpenClaim := { program := "ytcekdfhbbfednaa", sum := "ccff82ddbb5c358ac8c04d46a526b62cae07ae757b72f80fb3d864e3836a0fdd", func := "daybook/daybooklaw05.TlvOneForm", spec := "tlvOneForm", unfollowed := true, recurses := true, apart := false }
def TlvOneFormSaid : Prop := tlvOneFormRow.holds Try.pinned (OpenSpec.ofChange tlvOneFormSpec)

/-- ITS FALSE NEIGHBOUR: 'it returns false'. Refute it at one input. -/
def tlvOneFormWrong : ChangeSpec := { name := "tlvOneForm", fn := fun _ => fun
  | [d] => { results := [.lit (.bool false)], args := [d] }
  | _ => none }
def TlvOneFormWrongFalsely : Prop := tlvOneFormRow.holds Try.pinned (OpenSpec.ofChange tlvOneFormWrong)

/-- 'daybooklaw05.TlvPieces': WHATEVER THE INPUT: true; the input reads as it did. -/
def tlvPiecesSpec : ChangeSpec := { name := "tlvPieces", fn := fun _ => fun
  | [d1, d2] => { results := [.lit (.bool true)], args := [d1, d2] }
  | _ => none }
def tlvPiecesRow : OpenClaim := { program := "ytcekdfhbbfednaa", sum := "ccff82ddbb5c358ac8c04d46a526b62cae07ae757b72f80fb3d864e3836a0fdd", func := "daybook/daybooklaw05.TlvPieces", spec := "tlvPieces", unfollowed := true, recurses := true, apart := false }
def TlvPiecesSaid : Prop := tlvPiecesRow.holds Try.pinned (OpenSpec.ofChange tlvPiecesSpec)

/-- ITS FALSE NEIGHBOUR: 'it returns false'. Refute it at one input. -/
def tlvPiecesWrong : ChangeSpec := { name := "tlvPieces", fn := fun _ => fun
  | [d1, d2] => { results := [.lit (.bool false)], args := [d1, d2] }
  | _ => none }
def TlvPiecesWrongFalsely : Prop := tlvPiecesRow.holds Try.pinned (OpenSpec.ofChange tlvPiecesWrong)

/-- 'daybooklaw05.TlvOwn': WHATEVER THE INPUT: true; the input reads as it did. -/
def tlvOwnSpec : ChangeSpec := { name := "tlvOwn", fn := fun _ => fun
  | [d1, d2] => { results := [.lit (.bool true)], args := [d1, d2] }
  | _ => none }
def tlvOwnRow : OpenClaim := { program := "ytcekdfhbbfednaa", sum := "ccff82ddbb5c358ac8c04d46a526b62cae07ae757b72f80fb3d864e3836a0fdd", func := "daybook/daybooklaw05.TlvOwn", spec := "tlvOwn", unfollowed := true, recurses := true, apart := false }
def TlvOwnSaid : Prop := tlvOwnRow.holds Try.pinned (OpenSpec.ofChange tlvOwnSpec)

/-- ITS FALSE NEIGHBOUR: 'it returns false'. Refute it at one input. -/
def tlvOwnWrong : ChangeSpec := { name := "tlvOwn", fn := fun _ => fun
  | [d1, d2] => { results := [.lit (.bool false)], args := [d1, d2] }
  | _ => none }
def TlvOwnWrongFalsely : Prop := tlvOwnRow.holds Try.pinned (OpenSpec.ofChange tlvOwnWrong)

/-- 'daybooklaw05.TlvWrites': WHATEVER THE INPUT: true; the input reads as it did. -/
def tlvWritesSpec : ChangeSpec := { name := "tlvWrites", fn := fun _ => fun
  | [d] => { results := [.lit (.bool true)], args := [d] }
  | _ => none }
def tlvWritesRow : OpenClaim := { program := "ytcekdfhbbfednaa", sum := "ccff82ddbb5c358ac8c04d46a526b62cae07ae757b72f80fb3d864e3836a0fdd", func := "daybook/daybooklaw05.TlvWrites", spec := "tlvWrites", unfollowed := true, recurses := true, apart := false }
def TlvWritesSaid : Prop := tlvWritesRow.holds Try.pinned (OpenSpec.ofChange tlvWritesSpec)

/-- ITS FALSE NEIGHBOUR: 'it returns false'. Refute it at one input. -/
def tlvWritesWrong : ChangeSpec := { name := "tlvWrites", fn := fun _ => fun
  | [d] => { results := [.lit (.bool false)], args := [d] }
  | _ => none }
def TlvWritesWrongFalsely : Prop := tlvWritesRow.holds Try.pinned (OpenSpec.ofChange tlvWritesWrong)

/-- 'daybooklaw05.TlvReads': WHATEVER THE INPUT: true; the input reads as it did. -/
def tlvReadsSpec : ChangeSpec := { name := "tlvReads", fn := fun _ => fun
  | [d1, d2] => { results := [.lit (.bool true)], args := [d1, d2] }
  | _ => none }
def tlvReadsRow : OpenClaim := { program := "ytcekdfhbbfednaa", sum := "ccff82ddbb5c358ac8c04d46a526b62cae07ae757b72f80fb3d864e3836a0fdd", func := "daybook/daybooklaw05.TlvReads", spec := "tlvReads", unfollowed := true, recurses := true, apart := false }
def TlvReadsSaid : Prop := tlvReadsRow.holds Try.pinned (OpenSpec.ofChange tlvReadsSpec)

/-- ITS FALSE NEIGHBOUR: 'it returns false'. Refute it at one input. -/
def tlvReadsWrong : ChangeSpec := { name := "tlvReads", fn := fun _ => fun
  | [d1, d2] => { results := [.lit (.bool false)], args := [d1, d2] }
  | _ => none }
def TlvReadsWrongFalsely : Prop := tlvReadsRow.holds Try.pinned (OpenSpec.ofChange tlvReadsWrong)

/- THE SECOND FORM. 'bulk': how many values and letters a reading holds, each counted each time it is reached (what is shared counts as often as it is met; a slice's spare places count too). A statement '..UptoSaid' is the law's where the arguments, and the package variables that the reading takes, are together of bulk at most 1048576: NARROWER than '..Said'. Prove '..Said' where nothing that the law and all that it calls make is longer than what came in: it says more and counts as full. Else prove '..UptoSaid'. A law counts once. -/
mutual
def uptoBulk {H : Type} : DataW H → Nat
  | .lit (.string bytes) => bytes.length + 1
  | .lit _ => 1
  | .nil => 1
  | .ptr d => uptoBulk d + 1
  | .slice elems spare => uptoBulkAll elems + uptoBulkAll spare + 1
  | .agg parts => uptoBulkAll parts + 1
  | .iface _ d => uptoBulk d + 1
  | .map entries => uptoBulkEntries entries + 1
  | .held _ => 1
def uptoBulkAll {H : Type} : List (DataW H) → Nat
  | [] => 0
  | d :: r => uptoBulk d + uptoBulkAll r
def uptoBulkEntries {H : Type} : List (Lit × DataW H) → Nat
  | [] => 0
  | x :: r => uptoBulkEntry x + uptoBulkEntries r
def uptoBulkEntry {H : Type} : Lit × DataW H → Nat
  | (.string bytes, d) => bytes.length + uptoBulk d + 1
  | (_, d) => uptoBulk d + 1
 end
def uptoSmall : (H : Type) → List (DataW H) → Bool := fun _ ds => decide (uptoBulkAll ds ≤ 1048576)
def OpenSpec.upto (s : _root_.Go.ChangeSpec) : _root_.Go.OpenSpec := { _root_.Go.OpenSpec.ofChange s with cond := some uptoSmall }

/-- 'daybooklaw05.TlvMust', WHERE WHAT IT READS IS OF BULK AT MOST 1048576: true; the input reads as it did. -/
def tlvMustUptoRow : OpenClaim := { program := "ytcekdfhbbfednaa", sum := "ccff82ddbb5c358ac8c04d46a526b62cae07ae757b72f80fb3d864e3836a0fdd", func := "daybook/daybooklaw05.TlvMust", spec := "tlvMust", unfollowed := true, recurses := true, apart := false, narrowed := true }
def TlvMustUptoSaid : Prop := tlvMustUptoRow.holds Try.pinned (OpenSpec.upto tlvMustSpec)

/-- 'daybooklaw05.TlvEncodes', WHERE WHAT IT READS IS OF BULK AT MOST 1048576: true; the input reads as it did. -/
def tlvEncodesUptoRow : OpenClaim := { program := "ytcekdfhbbfednaa", sum := "ccff82ddbb5c358ac8c04d46a526b62cae07ae757b72f80fb3d864e3836a0fdd", func := "daybook/daybooklaw05.TlvEncodes", spec := "tlvEncodes", unfollowed := true, recurses := true, apart := false, narrowed := true }
def TlvEncodesUptoSaid : Prop := tlvEncodesUptoRow.holds Try.pinned (OpenSpec.upto tlvEncodesSpec)

/-- 'daybooklaw05.TlvDecodes', WHERE WHAT IT READS IS OF BULK AT MOST 1048576: true; the input reads as it did. -/
def tlvDecodesUptoRow : OpenClaim := { program := "ytcekdfhbbfednaa", sum := "ccff82ddbb5c358ac8c04d46a526b62cae07ae757b72f80fb3d864e3836a0fdd", func := "daybook/daybooklaw05.TlvDecodes", spec := "tlvDecodes", unfollowed := true, recurses := true, apart := false, narrowed := true }
def TlvDecodesUptoSaid : Prop := tlvDecodesUptoRow.holds Try.pinned (OpenSpec.upto tlvDecodesSpec)

/-- 'daybooklaw05.TlvBack', WHERE WHAT IT READS IS OF BULK AT MOST 1048576: true; the input reads as it did. -/
def tlvBackUptoRow : OpenClaim := { program := "ytcekdfhbbfednaa", sum := "ccff82ddbb5c358ac8c04d46a526b62cae07ae757b72f80fb3d864e3836a0fdd", func := "daybook/daybooklaw05.TlvBack", spec := "tlvBack", unfollowed := true, recurses := true, apart := false, narrowed := true }
def TlvBackUptoSaid : Prop := tlvBackUptoRow.holds Try.pinned (OpenSpec.upto tlvBackSpec)

/-- 'daybooklaw05.TlvOneForm', WHERE WHAT IT READS IS OF BULK AT MOST 1048576: true; the input reads as it did. -/
def tlvOneFormUptoRow : OpenClaim := { program := "ytcekdfhbbfednaa", sum := "ccff82ddbb5c358ac8c04d46a526b62cae07ae757b72f80fb3d864e3836a0fdd", func := "daybook/daybooklaw05.TlvOneForm", spec := "tlvOneForm", unfollowed := true, recurses := true, apart := false, narrowed := true }
def TlvOneFormUptoSaid : Prop := tlvOneFormUptoRow.holds Try.pinned (OpenSpec.upto tlvOneFormSpec)

/-- 'daybooklaw05.TlvPieces', WHERE WHAT IT READS IS OF BULK AT MOST 1048576: true; the input reads as it did. -/
def tlvPiecesUptoRow : OpenClaim := { program := "ytcekdfhbbfednaa", sum := "ccff82ddbb5c358ac8c04d46a526b62cae07ae757b72f80fb3d864e3836a0fdd", func := "daybook/daybooklaw05.TlvPieces", spec := "tlvPieces", unfollowed := true, recurses := true, apart := false, narrowed := true }
def TlvPiecesUptoSaid : Prop := tlvPiecesUptoRow.holds Try.pinned (OpenSpec.upto tlvPiecesSpec)

/-- 'daybooklaw05.TlvOwn', WHERE WHAT IT READS IS OF BULK AT MOST 1048576: true; the input reads as it did. -/
def tlvOwnUptoRow : OpenClaim := { program := "ytcekdfhbbfednaa", sum := "ccff82ddbb5c358ac8c04d46a526b62cae07ae757b72f80fb3d864e3836a0fdd", func := "daybook/daybooklaw05.TlvOwn", spec := "tlvOwn", unfollowed := true, recurses := true, apart := false, narrowed := true }
def TlvOwnUptoSaid : Prop := tlvOwnUptoRow.holds Try.pinned (OpenSpec.upto tlvOwnSpec)

/-- 'daybooklaw05.TlvWrites', WHERE WHAT IT READS IS OF BULK AT MOST 1048576: true; the input reads as it did. -/
def tlvWritesUptoRow : OpenClaim := { program := "ytcekdfhbbfednaa", sum := "ccff82ddbb5c358ac8c04d46a526b62cae07ae757b72f80fb3d864e3836a0fdd", func := "daybook/daybooklaw05.TlvWrites", spec := "tlvWrites", unfollowed := true, recurses := true, apart := false, narrowed := true }
def TlvWritesUptoSaid : Prop := tlvWritesUptoRow.holds Try.pinned (OpenSpec.upto tlvWritesSpec)

/-- 'daybooklaw05.TlvReads', WHERE WHAT IT READS IS OF BULK AT MOST 1048576: true; the input reads as it did. -/
def tlvReadsUptoRow : OpenClaim := { program := "ytcekdfhbbfednaa", sum := "ccff82ddbb5c358ac8c04d46a526b62cae07ae757b72f80fb3d864e3836a0fdd", func := "daybook/daybooklaw05.TlvReads", spec := "tlvReads", unfollowed := true, recurses := true, apart := false, narrowed := true }
def TlvReadsUptoSaid : Prop := tlvReadsUptoRow.holds Try.pinned (OpenSpec.upto tlvReadsSpec)

end Rows
end Go.Proofs.Ytcekdfhbbfednaa
