/-
  NARROWER THAN 'FOR EVERY INPUT', by the rows' own cells (each row's printed sentence says how): ManifestSaves: laid · BookEncodes: laid · BookDecodes: laid · BookSaves: laid · BookBack: laid · BookOrders: laid.
  DERIVED. THE GIVEN ROWS OF THIS SEAT. 6 by the template 'for every input the law returns true; each argument reads behind the call as it read before'; 0 by the template 'total and deterministic' (their statements: YtjajbbgebblalaaGreatDoorTotals.lean).
  GIVEN WITH THE SEED: the statements are not yours to turn. If you find one false, say at which input.
  Laid BY PROGRAM, IN A SANDBOX (cutbox-rows.mjs): the forced cells as the released guide's own fill.sh prints them over the translation 3e17ab042e5eed03… (all of the seat's roots in one cut). By AI agents, Wed Nov 11 2026. No macro, syntax, notation, axiom, sorry.
-/
import Derived.Test.YtjajbbgebblalaaGreatDoorChecked
import GoSem.Claim
import GoSem.ClaimJoined
import GoSem.ClaimMapViews
import Derived.JoinedTies
import Derived.KernelRfl
namespace Go.Proofs.YtjajbbgebblalaaGreatDoor
/- THE CELL 'sum', in the pinned program and in every row, IS THE sha256 OF THE DUMP (.gsa) THAT YtjajbbgebblalaaGreatDoorProg.lean LOADS. Nothing in Lean hashes anything: it is a label: what it is worth is what the hold of that sum in a sandbox is worth. -/
noncomputable def Tryz.pinned : Pinned := { name := "ytjajbbgebblalaagreatdoor", sum := "3e17ab042e5eed03bf63f60424d7a05bd267429e868fcf7a2c2df4d053c866a3", checked := Tryz.checked }
namespace Rows
def none {H : Type} : Left H := { results := [], args := [] }

/- WHAT THE LISTED PACKAGE-LEVEL VARIABLES READ AS WHEN THE CALL BEGINS. Each datum BY PROGRAM (the guide's laid-datum.mjs) off the statement by which the dump's own 'gosem.cut.vars' lays the variable. In a bare row this is a premise. The card (YtjajbbgebblalaaGreatDoorCards.lean) ties it to the program's text. -/
def laid_daybook_crc_nibbles {H : Type} : DataW H := .agg [.lit (.int .u32 0), .lit (.int .u32 498536548), .lit (.int .u32 997073096), .lit (.int .u32 651767980), .lit (.int .u32 1994146192), .lit (.int .u32 1802195444), .lit (.int .u32 1303535960), .lit (.int .u32 1342533948), .lit (.int .u32 3988292384), .lit (.int .u32 4027552580), .lit (.int .u32 3604390888), .lit (.int .u32 3412177804), .lit (.int .u32 2607071920), .lit (.int .u32 2262029012), .lit (.int .u32 2685067896), .lit (.int .u32 3183342108)]

/-- 'daybooklaw16.ManifestSaves': WHATEVER THE INPUT: true; the input reads as it did. -/
def manifestSavesSpec : ChangeSpec := { name := "manifestSaves", fn := fun _ => fun
  | [d1, d2, d3, d4] => { results := [.lit (.bool true)], args := [d1, d2, d3, d4] }
  | _ => none }
def manifestSavesRow : OpenClaim := { program := "ytjajbbgebblalaagreatdoor", sum := "3e17ab042e5eed03bf63f60424d7a05bd267429e868fcf7a2c2df4d053c866a3", func := "daybook/daybooklaw16.ManifestSaves", spec := "manifestSaves", unfollowed := true, recurses := true, named := ["daybook/crc.nibbles"], apart := false, laid := [("daybook/crc.nibbles", laid_daybook_crc_nibbles)] }
def ManifestSavesSaid : Prop := manifestSavesRow.holds Tryz.pinned (OpenSpec.ofChange manifestSavesSpec)

/-- ITS FALSE NEIGHBOUR: 'it returns false'. Refute it at one input. -/
def manifestSavesWrong : ChangeSpec := { name := "manifestSaves", fn := fun _ => fun
  | [d1, d2, d3, d4] => { results := [.lit (.bool false)], args := [d1, d2, d3, d4] }
  | _ => none }
def ManifestSavesWrongFalsely : Prop := manifestSavesRow.holds Tryz.pinned (OpenSpec.ofChange manifestSavesWrong)

/-- 'daybooklaw17.BookEncodes': WHATEVER THE INPUT: true; the input reads as it did. -/
def bookEncodesSpec : ChangeSpec := { name := "bookEncodes", fn := fun _ => fun
  | [d1, d2, d3] => { results := [.lit (.bool true)], args := [d1, d2, d3] }
  | _ => none }
def bookEncodesRow : OpenClaim := { program := "ytjajbbgebblalaagreatdoor", sum := "3e17ab042e5eed03bf63f60424d7a05bd267429e868fcf7a2c2df4d053c866a3", func := "daybook/daybooklaw17.BookEncodes", spec := "bookEncodes", unfollowed := true, recurses := true, named := ["math/bits.divideError", "math/bits.overflowError", "daybook/crc.nibbles"], apart := false, laid := [("daybook/crc.nibbles", laid_daybook_crc_nibbles)] }
def BookEncodesSaid : Prop := bookEncodesRow.holds Tryz.pinned (OpenSpec.ofChange bookEncodesSpec)

/-- ITS FALSE NEIGHBOUR: 'it returns false'. Refute it at one input. -/
def bookEncodesWrong : ChangeSpec := { name := "bookEncodes", fn := fun _ => fun
  | [d1, d2, d3] => { results := [.lit (.bool false)], args := [d1, d2, d3] }
  | _ => none }
def BookEncodesWrongFalsely : Prop := bookEncodesRow.holds Tryz.pinned (OpenSpec.ofChange bookEncodesWrong)

/-- 'daybooklaw17.BookDecodes': WHATEVER THE INPUT: true; the input reads as it did. -/
def bookDecodesSpec : ChangeSpec := { name := "bookDecodes", fn := fun _ => fun
  | [d] => { results := [.lit (.bool true)], args := [d] }
  | _ => none }
def bookDecodesRow : OpenClaim := { program := "ytjajbbgebblalaagreatdoor", sum := "3e17ab042e5eed03bf63f60424d7a05bd267429e868fcf7a2c2df4d053c866a3", func := "daybook/daybooklaw17.BookDecodes", spec := "bookDecodes", unfollowed := true, recurses := true, named := ["math/bits.divideError", "math/bits.overflowError", "daybook/crc.nibbles"], apart := false, laid := [("daybook/crc.nibbles", laid_daybook_crc_nibbles)] }
def BookDecodesSaid : Prop := bookDecodesRow.holds Tryz.pinned (OpenSpec.ofChange bookDecodesSpec)

/-- ITS FALSE NEIGHBOUR: 'it returns false'. Refute it at one input. -/
def bookDecodesWrong : ChangeSpec := { name := "bookDecodes", fn := fun _ => fun
  | [d] => { results := [.lit (.bool false)], args := [d] }
  | _ => none }
def BookDecodesWrongFalsely : Prop := bookDecodesRow.holds Tryz.pinned (OpenSpec.ofChange bookDecodesWrong)

/-- 'daybooklaw17.BookSaves': WHATEVER THE INPUT: true; the input reads as it did. -/
def bookSavesSpec : ChangeSpec := { name := "bookSaves", fn := fun _ => fun
  | [d1, d2, d3, d4, d5, d6] => { results := [.lit (.bool true)], args := [d1, d2, d3, d4, d5, d6] }
  | _ => none }
def bookSavesRow : OpenClaim := { program := "ytjajbbgebblalaagreatdoor", sum := "3e17ab042e5eed03bf63f60424d7a05bd267429e868fcf7a2c2df4d053c866a3", func := "daybook/daybooklaw17.BookSaves", spec := "bookSaves", unfollowed := true, recurses := true, named := ["math/bits.divideError", "math/bits.overflowError", "daybook/crc.nibbles"], apart := false, laid := [("daybook/crc.nibbles", laid_daybook_crc_nibbles)] }
def BookSavesSaid : Prop := bookSavesRow.holds Tryz.pinned (OpenSpec.ofChange bookSavesSpec)

/-- ITS FALSE NEIGHBOUR: 'it returns false'. Refute it at one input. -/
def bookSavesWrong : ChangeSpec := { name := "bookSaves", fn := fun _ => fun
  | [d1, d2, d3, d4, d5, d6] => { results := [.lit (.bool false)], args := [d1, d2, d3, d4, d5, d6] }
  | _ => none }
def BookSavesWrongFalsely : Prop := bookSavesRow.holds Tryz.pinned (OpenSpec.ofChange bookSavesWrong)

/-- 'daybooklaw17.BookBack': WHATEVER THE INPUT: true; the input reads as it did. -/
def bookBackSpec : ChangeSpec := { name := "bookBack", fn := fun _ => fun
  | [d1, d2, d3, d4, d5] => { results := [.lit (.bool true)], args := [d1, d2, d3, d4, d5] }
  | _ => none }
def bookBackRow : OpenClaim := { program := "ytjajbbgebblalaagreatdoor", sum := "3e17ab042e5eed03bf63f60424d7a05bd267429e868fcf7a2c2df4d053c866a3", func := "daybook/daybooklaw17.BookBack", spec := "bookBack", inPlace := ["slices.overlaps[daybook/api.Line]"], unfollowed := true, recurses := true, named := ["math/bits.divideError", "math/bits.overflowError", "daybook/crc.nibbles"], apart := false, laid := [("daybook/crc.nibbles", laid_daybook_crc_nibbles)] }
def BookBackSaid : Prop := bookBackRow.holds Tryz.pinned (OpenSpec.ofChange bookBackSpec)

/-- ITS FALSE NEIGHBOUR: 'it returns false'. Refute it at one input. -/
def bookBackWrong : ChangeSpec := { name := "bookBack", fn := fun _ => fun
  | [d1, d2, d3, d4, d5] => { results := [.lit (.bool false)], args := [d1, d2, d3, d4, d5] }
  | _ => none }
def BookBackWrongFalsely : Prop := bookBackRow.holds Tryz.pinned (OpenSpec.ofChange bookBackWrong)

/-- 'daybooklaw17.BookOrders': WHATEVER THE INPUT: true; the input reads as it did. -/
def bookOrdersSpec : ChangeSpec := { name := "bookOrders", fn := fun _ => fun
  | [d1, d2, d3] => { results := [.lit (.bool true)], args := [d1, d2, d3] }
  | _ => none }
def bookOrdersRow : OpenClaim := { program := "ytjajbbgebblalaagreatdoor", sum := "3e17ab042e5eed03bf63f60424d7a05bd267429e868fcf7a2c2df4d053c866a3", func := "daybook/daybooklaw17.BookOrders", spec := "bookOrders", inPlace := ["slices.overlaps[daybook/api.Line]"], unfollowed := true, recurses := true, named := ["math/bits.divideError", "math/bits.overflowError", "daybook/crc.nibbles"], apart := false, laid := [("daybook/crc.nibbles", laid_daybook_crc_nibbles)] }
def BookOrdersSaid : Prop := bookOrdersRow.holds Tryz.pinned (OpenSpec.ofChange bookOrdersSpec)

/-- ITS FALSE NEIGHBOUR: 'it returns false'. Refute it at one input. -/
def bookOrdersWrong : ChangeSpec := { name := "bookOrders", fn := fun _ => fun
  | [d1, d2, d3] => { results := [.lit (.bool false)], args := [d1, d2, d3] }
  | _ => none }
def BookOrdersWrongFalsely : Prop := bookOrdersRow.holds Tryz.pinned (OpenSpec.ofChange bookOrdersWrong)

/- THE SECOND FORM. 'bulk': how many values and letters a reading holds, each counted each time it is reached (what is shared counts as often as it is met; a slice's spare places count too). A statement '..UptoSaid' is the law's where the arguments, and the package variables that the reading takes, are together of bulk at most 1048576: NARROWER than '..Said'. Prove '..Said' where nothing that the law and all that it calls make is longer than what came in: it says more and counts as full. Else prove '..UptoSaid'. A law counts once. -/
mutual
def uptoBulk {H : Type} : DataW H → Nat
  | .lit (.string bytes) => bytes.length + 1
  | .lit _ => 1
  | .nil => 1
  | .ptr d => uptoBulk d + 1
  | .slice elems spare => uptoBulkAll elems + uptoBulkAll spare + 1
  | .agg parts => uptoBulkAll parts + 1
  | .iface _ d => uptoBulk d + 1
  | .map entries => uptoBulkEntries entries + 1
  | .held _ => 1
def uptoBulkAll {H : Type} : List (DataW H) → Nat
  | [] => 0
  | d :: r => uptoBulk d + uptoBulkAll r
def uptoBulkEntries {H : Type} : List (Lit × DataW H) → Nat
  | [] => 0
  | x :: r => uptoBulkEntry x + uptoBulkEntries r
def uptoBulkEntry {H : Type} : Lit × DataW H → Nat
  | (.string bytes, d) => bytes.length + uptoBulk d + 1
  | (_, d) => uptoBulk d + 1
 end
def uptoSmall : (H : Type) → List (DataW H) → Bool := fun _ ds => decide (uptoBulkAll ds ≤ 1048576)
def OpenSpec.upto (s : _root_.Go.ChangeSpec) : _root_.Go.OpenSpec := { _root_.Go.OpenSpec.ofChange s with cond := some uptoSmall }

/-- 'daybooklaw16.ManifestSaves', WHERE WHAT IT READS IS OF BULK AT MOST 1048576: true; the input reads as it did. -/
def manifestSavesUptoRow : OpenClaim := { program := "ytjajbbgebblalaagreatdoor", sum := "3e17ab042e5eed03bf63f60424d7a05bd267429e868fcf7a2c2df4d053c866a3", func := "daybook/daybooklaw16.ManifestSaves", spec := "manifestSaves", unfollowed := true, recurses := true, named := ["daybook/crc.nibbles"], apart := false, laid := [("daybook/crc.nibbles", laid_daybook_crc_nibbles)], narrowed := true }
def ManifestSavesUptoSaid : Prop := manifestSavesUptoRow.holds Tryz.pinned (OpenSpec.upto manifestSavesSpec)

/-- 'daybooklaw17.BookEncodes', WHERE WHAT IT READS IS OF BULK AT MOST 1048576: true; the input reads as it did. -/
def bookEncodesUptoRow : OpenClaim := { program := "ytjajbbgebblalaagreatdoor", sum := "3e17ab042e5eed03bf63f60424d7a05bd267429e868fcf7a2c2df4d053c866a3", func := "daybook/daybooklaw17.BookEncodes", spec := "bookEncodes", unfollowed := true, recurses := true, named := ["math/bits.divideError", "math/bits.overflowError", "daybook/crc.nibbles"], apart := false, laid := [("daybook/crc.nibbles", laid_daybook_crc_nibbles)], narrowed := true }
def BookEncodesUptoSaid : Prop := bookEncodesUptoRow.holds Tryz.pinned (OpenSpec.upto bookEncodesSpec)

/-- 'daybooklaw17.BookDecodes', WHERE WHAT IT READS IS OF BULK AT MOST 1048576: true; the input reads as it did. -/
def bookDecodesUptoRow : OpenClaim := { program := "ytjajbbgebblalaagreatdoor", sum := "3e17ab042e5eed03bf63f60424d7a05bd267429e868fcf7a2c2df4d053c866a3", func := "daybook/daybooklaw17.BookDecodes", spec := "bookDecodes", unfollowed := true, recurses := true, named := ["math/bits.divideError", "math/bits.overflowError", "daybook/crc.nibbles"], apart := false, laid := [("daybook/crc.nibbles", laid_daybook_crc_nibbles)], narrowed := true }
def BookDecodesUptoSaid : Prop := bookDecodesUptoRow.holds Tryz.pinned (OpenSpec.upto bookDecodesSpec)

/-- 'daybooklaw17.BookSaves', WHERE WHAT IT READS IS OF BULK AT MOST 1048576: true; the input reads as it did. -/
def bookSavesUptoRow : OpenClaim := { program := "ytjajbbgebblalaagreatdoor", sum := "3e17ab042e5eed03bf63f60424d7a05bd267429e868fcf7a2c2df4d053c866a3", func := "daybook/daybooklaw17.BookSaves", spec := "bookSaves", unfollowed := true, recurses := true, named := ["math/bits.divideError", "math/bits.overflowError", "daybook/crc.nibbles"], apart := false, laid := [("daybook/crc.nibbles", laid_daybook_crc_nibbles)], narrowed := true }
def BookSavesUptoSaid : Prop := bookSavesUptoRow.holds Tryz.pinned (OpenSpec.upto bookSavesSpec)

/-- 'daybooklaw17.BookBack', WHERE WHAT IT READS IS OF BULK AT MOST 1048576: true; the input reads as it did. -/
def bookBackUptoRow : OpenClaim := { program := "ytjajbbgebblalaagreatdoor", sum := "3e17ab042e5eed03bf63f60424d7a05bd267429e868fcf7a2c2df4d053c866a3", func := "daybook/daybooklaw17.BookBack", spec := "bookBack", inPlace := ["slices.overlaps[daybook/api.Line]"], unfollowed := true, recurses := true, named := ["math/bits.divideError", "math/bits.overflowError", "daybook/crc.nibbles"], apart := false, laid := [("daybook/crc.nibbles", laid_daybook_crc_nibbles)], narrowed := true }
def BookBackUptoSaid : Prop := bookBackUptoRow.holds Tryz.pinned (OpenSpec.upto bookBackSpec)

/-- 'daybooklaw17.BookOrders', WHERE WHAT IT READS IS OF BULK AT MOST 1048576: true; the input reads as it did. -/
def bookOrdersUptoRow : OpenClaim := { program := "ytjajbbgebblalaagreatdoor", sum := "3e17ab042e5eed03bf63f60424d7a05bd267429e868fcf7a2c2df4d053c866a3", func := "daybook/daybooklaw17.BookOrders", spec := "bookOrders", inPlace := ["slices.overlaps[daybook/api.Line]"], unfollowed := true, recurses := true, named := ["math/bits.divideError", "math/bits.overflowError", "daybook/crc.nibbles"], apart := false, laid := [("daybook/crc.nibbles", laid_daybook_crc_nibbles)], narrowed := true }
def BookOrdersUptoSaid : Prop := bookOrdersUptoRow.holds Tryz.pinned (OpenSpec.upto bookOrdersSpec)

end Rows
end Go.Proofs.YtjajbbgebblalaaGreatDoor
