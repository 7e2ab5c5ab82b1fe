/-
  DERIVED. GIVEN WITH THE SEED: THE CARDS: each row of YtjajbbgebblalaaGreatDoorRows.lean that lists a variable, with what it lists TIED to the program's text (the seventh form; the later family's looks); each row that meets fmt, with fmt's text TOLD by the authors' own Lean function (tested against real Go, not proved from fmt's source: count such statements apart). THE CARD IS WHAT COUNTS. Prove the row's statement (the work); the ties are given (YtjajbbgebblalaaGreatDoorTie.lean); close each card by the builder's one call (the guide's Derived/Test/ToyasCard.lean, 'card_holds'). Laid BY PROGRAM, IN A SANDBOX (cutbox-door.mjs). By AI agents, Wed Nov 11 2026. No macro, syntax, notation, axiom, sorry.
-/
import Derived.Test.YtjajbbgebblalaaGreatDoorRows
import GoSem.ClaimSeven
namespace Go.Proofs.YtjajbbgebblalaaGreatDoor
namespace Rows

/-- THE TIED CARD OF 'daybooklaw16.ManifestSaves'. -/
def manifestSavesCard : Claim7 := { stood := { row := manifestSavesRow, standIns := [], harness := (true, "da874ffce1fadd8a75277637be10b2c7e62fa88977e889e35030378537def805"), looks := true }, kinds := [], alts := [], laidByText := true, laidKinds := [.data], laidTests := true, laidLooks := .later }
def ManifestSavesCardSaid : Prop := Claim7.holds Tryz.pinned (.plain (OpenSpec.ofChange manifestSavesSpec)) manifestSavesCard

/-- THE TIED CARD OF 'daybooklaw17.BookEncodes'. -/
def bookEncodesCard : Claim7 := { stood := { row := bookEncodesRow, standIns := [], harness := (true, "da874ffce1fadd8a75277637be10b2c7e62fa88977e889e35030378537def805"), looks := true }, kinds := [], alts := [], laidByText := true, laidKinds := [.data], laidTests := true, laidLooks := .later }
def BookEncodesCardSaid : Prop := Claim7.holds Tryz.pinned (.plain (OpenSpec.ofChange bookEncodesSpec)) bookEncodesCard

/-- THE TIED CARD OF 'daybooklaw17.BookDecodes'. -/
def bookDecodesCard : Claim7 := { stood := { row := bookDecodesRow, standIns := [], harness := (true, "da874ffce1fadd8a75277637be10b2c7e62fa88977e889e35030378537def805"), looks := true }, kinds := [], alts := [], laidByText := true, laidKinds := [.data], laidTests := true, laidLooks := .later }
def BookDecodesCardSaid : Prop := Claim7.holds Tryz.pinned (.plain (OpenSpec.ofChange bookDecodesSpec)) bookDecodesCard

/-- THE TIED CARD OF 'daybooklaw17.BookSaves'. -/
def bookSavesCard : Claim7 := { stood := { row := bookSavesRow, standIns := [], harness := (true, "da874ffce1fadd8a75277637be10b2c7e62fa88977e889e35030378537def805"), looks := true }, kinds := [], alts := [], laidByText := true, laidKinds := [.data], laidTests := true, laidLooks := .later }
def BookSavesCardSaid : Prop := Claim7.holds Tryz.pinned (.plain (OpenSpec.ofChange bookSavesSpec)) bookSavesCard

/-- THE TIED CARD OF 'daybooklaw17.BookBack'. -/
def bookBackCard : Claim7 := { stood := { row := bookBackRow, standIns := [], harness := (true, "da874ffce1fadd8a75277637be10b2c7e62fa88977e889e35030378537def805"), looks := true }, kinds := [], alts := [], laidByText := true, laidKinds := [.data], laidTests := true, laidLooks := .later }
def BookBackCardSaid : Prop := Claim7.holds Tryz.pinned (.plain (OpenSpec.ofChange bookBackSpec)) bookBackCard

/-- THE TIED CARD OF 'daybooklaw17.BookOrders'. -/
def bookOrdersCard : Claim7 := { stood := { row := bookOrdersRow, standIns := [], harness := (true, "da874ffce1fadd8a75277637be10b2c7e62fa88977e889e35030378537def805"), looks := true }, kinds := [], alts := [], laidByText := true, laidKinds := [.data], laidTests := true, laidLooks := .later }
def BookOrdersCardSaid : Prop := Claim7.holds Tryz.pinned (.plain (OpenSpec.ofChange bookOrdersSpec)) bookOrdersCard

/-- THE SECOND FORM's CARD OF 'daybooklaw16.ManifestSaves'. -/
def manifestSavesUptoCard : Claim7 := { stood := { row := manifestSavesUptoRow, standIns := [], harness := (true, "da874ffce1fadd8a75277637be10b2c7e62fa88977e889e35030378537def805"), looks := true }, kinds := [], alts := [], laidByText := true, laidKinds := [.data], laidTests := true, laidLooks := .later }
def ManifestSavesUptoCardSaid : Prop := Claim7.holds Tryz.pinned (.plain (OpenSpec.upto manifestSavesSpec)) manifestSavesUptoCard

/-- THE SECOND FORM's CARD OF 'daybooklaw17.BookEncodes'. -/
def bookEncodesUptoCard : Claim7 := { stood := { row := bookEncodesUptoRow, standIns := [], harness := (true, "da874ffce1fadd8a75277637be10b2c7e62fa88977e889e35030378537def805"), looks := true }, kinds := [], alts := [], laidByText := true, laidKinds := [.data], laidTests := true, laidLooks := .later }
def BookEncodesUptoCardSaid : Prop := Claim7.holds Tryz.pinned (.plain (OpenSpec.upto bookEncodesSpec)) bookEncodesUptoCard

/-- THE SECOND FORM's CARD OF 'daybooklaw17.BookDecodes'. -/
def bookDecodesUptoCard : Claim7 := { stood := { row := bookDecodesUptoRow, standIns := [], harness := (true, "da874ffce1fadd8a75277637be10b2c7e62fa88977e889e35030378537def805"), looks := true }, kinds := [], alts := [], laidByText := true, laidKinds := [.data], laidTests := true, laidLooks := .later }
def BookDecodesUptoCardSaid : Prop := Claim7.holds Tryz.pinned (.plain (OpenSpec.upto bookDecodesSpec)) bookDecodesUptoCard

/-- THE SECOND FORM's CARD OF 'daybooklaw17.BookSaves'. -/
def bookSavesUptoCard : Claim7 := { stood := { row := bookSavesUptoRow, standIns := [], harness := (true, "da874ffce1fadd8a75277637be10b2c7e62fa88977e889e35030378537def805"), looks := true }, kinds := [], alts := [], laidByText := true, laidKinds := [.data], laidTests := true, laidLooks := .later }
def BookSavesUptoCardSaid : Prop := Claim7.holds Tryz.pinned (.plain (OpenSpec.upto bookSavesSpec)) bookSavesUptoCard

/-- THE SECOND FORM's CARD OF 'daybooklaw17.BookBack'. -/
def bookBackUptoCard : Claim7 := { stood := { row := bookBackUptoRow, standIns := [], harness := (true, "da874ffce1fadd8a75277637be10b2c7e62fa88977e889e35030378537def805"), looks := true }, kinds := [], alts := [], laidByText := true, laidKinds := [.data], laidTests := true, laidLooks := .later }
def BookBackUptoCardSaid : Prop := Claim7.holds Tryz.pinned (.plain (OpenSpec.upto bookBackSpec)) bookBackUptoCard

/-- THE SECOND FORM's CARD OF 'daybooklaw17.BookOrders'. -/
def bookOrdersUptoCard : Claim7 := { stood := { row := bookOrdersUptoRow, standIns := [], harness := (true, "da874ffce1fadd8a75277637be10b2c7e62fa88977e889e35030378537def805"), looks := true }, kinds := [], alts := [], laidByText := true, laidKinds := [.data], laidTests := true, laidLooks := .later }
def BookOrdersUptoCardSaid : Prop := Claim7.holds Tryz.pinned (.plain (OpenSpec.upto bookOrdersSpec)) bookOrdersUptoCard
end Rows
end Go.Proofs.YtjajbbgebblalaaGreatDoor
