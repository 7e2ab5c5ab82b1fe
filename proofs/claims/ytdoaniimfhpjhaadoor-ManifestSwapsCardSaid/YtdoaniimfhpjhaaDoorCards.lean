/-
  DERIVED. GIVEN WITH THE SEED: THE CARDS: each row of YtdoaniimfhpjhaaDoorRows.lean that lists a variable, with what it lists TIED to the program's text (the seventh form; the later family's looks); each row that meets fmt, with fmt's text TOLD by the authors' own Lean function (tested against real Go, not proved from fmt's source: count such statements apart). THE CARD IS WHAT COUNTS. Prove the row's statement (the work); the ties are given (YtdoaniimfhpjhaaDoorTie.lean); close each card by the builder's one call (the guide's Derived/Test/ToyasCard.lean, 'card_holds'). Laid BY PROGRAM, IN A SANDBOX (cutbox-door.mjs). By AI agents, Wed Nov 11 2026. No macro, syntax, notation, axiom, sorry.
-/
import Derived.Test.YtdoaniimfhpjhaaDoorRows
import GoSem.ClaimSeven
namespace Go.Proofs.YtdoaniimfhpjhaaDoor
namespace Rows

/-- THE TIED CARD OF 'daybooklaw16.ManifestSwaps'. -/
def manifestSwapsCard : Claim7 := { stood := { row := manifestSwapsRow, standIns := [], harness := (true, "ee51fe75e2f3a2f7b458671c2cf014b60b2ab2b0c20b81143ceae5508ecd85ff"), looks := false }, kinds := [], alts := [], laidByText := true, laidKinds := [.data], laidTests := true, laidLooks := .later }
def ManifestSwapsCardSaid : Prop := Claim7.holds Tryd.pinned (.plain (OpenSpec.ofChange manifestSwapsSpec)) manifestSwapsCard

/-- THE SECOND FORM's CARD OF 'daybooklaw16.ManifestSwaps'. -/
def manifestSwapsUptoCard : Claim7 := { stood := { row := manifestSwapsUptoRow, standIns := [], harness := (true, "ee51fe75e2f3a2f7b458671c2cf014b60b2ab2b0c20b81143ceae5508ecd85ff"), looks := false }, kinds := [], alts := [], laidByText := true, laidKinds := [.data], laidTests := true, laidLooks := .later }
def ManifestSwapsUptoCardSaid : Prop := Claim7.holds Tryd.pinned (.plain (OpenSpec.upto manifestSwapsSpec)) manifestSwapsUptoCard
end Rows
end Go.Proofs.YtdoaniimfhpjhaaDoor
