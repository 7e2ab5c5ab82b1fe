/-
  DERIVED. GIVEN WITH THE SEED: THE CARDS: each row of YtjomgppbialeoaaDoorRows.lean that lists a variable, with what it lists TIED to the program's text (the seventh form; the later family's looks); each row that meets fmt, with fmt's text TOLD by the authors' own Lean function (tested against real Go, not proved from fmt's source: count such statements apart). THE CARD IS WHAT COUNTS. Prove the row's statement (the work); the ties are given (YtjomgppbialeoaaDoorTie.lean); close each card by the builder's one call (the guide's Derived/Test/ToyasCard.lean, 'card_holds'). Laid BY PROGRAM, IN A SANDBOX (cutbox-door.mjs). By AI agents, Wed Nov 11 2026. No macro, syntax, notation, axiom, sorry.
-/
import Derived.Test.YtjomgppbialeoaaDoorRows
import GoSem.ClaimSeven
namespace Go.Proofs.YtjomgppbialeoaaDoor
namespace Rows

/-- THE TIED CARD OF 'daybooklaw16.ManifestEncodes'. -/
def manifestEncodesCard : Claim7 := { stood := { row := manifestEncodesRow, standIns := [], harness := (true, "3ac34965e6d5f1989c7eb6ad4f7c4b909101e756b89c8e76403c2a3f7c4c9b97"), looks := false }, kinds := [], alts := [], laidByText := true, laidKinds := [.data], laidTests := true, laidLooks := .later }
def ManifestEncodesCardSaid : Prop := Claim7.holds Tryd.pinned (.plain (OpenSpec.ofChange manifestEncodesSpec)) manifestEncodesCard

/-- THE TIED CARD OF 'daybooklaw16.ManifestDecodes'. -/
def manifestDecodesCard : Claim7 := { stood := { row := manifestDecodesRow, standIns := [], harness := (true, "3ac34965e6d5f1989c7eb6ad4f7c4b909101e756b89c8e76403c2a3f7c4c9b97"), looks := false }, kinds := [], alts := [], laidByText := true, laidKinds := [.data], laidTests := true, laidLooks := .later }
def ManifestDecodesCardSaid : Prop := Claim7.holds Tryd.pinned (.plain (OpenSpec.ofChange manifestDecodesSpec)) manifestDecodesCard

/-- THE TIED CARD OF 'daybooklaw16.ManifestBack'. -/
def manifestBackCard : Claim7 := { stood := { row := manifestBackRow, standIns := [], harness := (true, "3ac34965e6d5f1989c7eb6ad4f7c4b909101e756b89c8e76403c2a3f7c4c9b97"), looks := false }, kinds := [], alts := [], laidByText := true, laidKinds := [.data], laidTests := true, laidLooks := .later }
def ManifestBackCardSaid : Prop := Claim7.holds Tryd.pinned (.plain (OpenSpec.ofChange manifestBackSpec)) manifestBackCard

/-- THE SECOND FORM's CARD OF 'daybooklaw16.ManifestEncodes'. -/
def manifestEncodesUptoCard : Claim7 := { stood := { row := manifestEncodesUptoRow, standIns := [], harness := (true, "3ac34965e6d5f1989c7eb6ad4f7c4b909101e756b89c8e76403c2a3f7c4c9b97"), looks := false }, kinds := [], alts := [], laidByText := true, laidKinds := [.data], laidTests := true, laidLooks := .later }
def ManifestEncodesUptoCardSaid : Prop := Claim7.holds Tryd.pinned (.plain (OpenSpec.upto manifestEncodesSpec)) manifestEncodesUptoCard

/-- THE SECOND FORM's CARD OF 'daybooklaw16.ManifestDecodes'. -/
def manifestDecodesUptoCard : Claim7 := { stood := { row := manifestDecodesUptoRow, standIns := [], harness := (true, "3ac34965e6d5f1989c7eb6ad4f7c4b909101e756b89c8e76403c2a3f7c4c9b97"), looks := false }, kinds := [], alts := [], laidByText := true, laidKinds := [.data], laidTests := true, laidLooks := .later }
def ManifestDecodesUptoCardSaid : Prop := Claim7.holds Tryd.pinned (.plain (OpenSpec.upto manifestDecodesSpec)) manifestDecodesUptoCard

/-- THE SECOND FORM's CARD OF 'daybooklaw16.ManifestBack'. -/
def manifestBackUptoCard : Claim7 := { stood := { row := manifestBackUptoRow, standIns := [], harness := (true, "3ac34965e6d5f1989c7eb6ad4f7c4b909101e756b89c8e76403c2a3f7c4c9b97"), looks := false }, kinds := [], alts := [], laidByText := true, laidKinds := [.data], laidTests := true, laidLooks := .later }
def ManifestBackUptoCardSaid : Prop := Claim7.holds Tryd.pinned (.plain (OpenSpec.upto manifestBackSpec)) manifestBackUptoCard
end Rows
end Go.Proofs.YtjomgppbialeoaaDoor
