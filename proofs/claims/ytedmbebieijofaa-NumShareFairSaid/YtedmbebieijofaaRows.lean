/-
  No cell of these rows narrows 'for every input' (looked for: loops, veiled, ifaces, maps, wideKeys, modest, calm, conditions, laid).
  DERIVED. THE GIVEN ROWS OF THIS SEAT. 9 by the template 'for every input the law returns true; each argument reads behind the call as it read before'; 0 by the template 'total and deterministic' (their statements: YtedmbebieijofaaTotals.lean).
  GIVEN WITH THE SEED: the statements are not yours to turn. If you find one false, say at which input.
  Laid BY PROGRAM, IN A SANDBOX (cutbox-rows.mjs): the forced cells as the released guide's own fill.sh prints them over the translation fe5087b4bf3fb225… (all of the seat's roots in one cut). By AI agents, Wed Nov 11 2026. No macro, syntax, notation, axiom, sorry.
-/
import Derived.Test.YtedmbebieijofaaChecked
import GoSem.Claim
import GoSem.ClaimJoined
import GoSem.ClaimMapViews
import Derived.JoinedTies
import Derived.KernelRfl
namespace Go.Proofs.Ytedmbebieijofaa
/- THE CELL 'sum', in the pinned program and in every row, IS THE sha256 OF THE DUMP (.gsa) THAT YtedmbebieijofaaProg.lean LOADS. Nothing in Lean hashes anything: it is a label: what it is worth is what the hold of that sum in a sandbox is worth. -/
noncomputable def Try.pinned : Pinned := { name := "ytedmbebieijofaa", sum := "fe5087b4bf3fb2258e58f12677f7d2f1ee71c03ded3c4fff46f398f016a40a8f", checked := Try.checked }
namespace Rows
def none {H : Type} : Left H := { results := [], args := [] }

/-- 'daybooklaw04.NumOrder': WHATEVER THE INPUT: true; the input reads as it did. -/
def numOrderSpec : ChangeSpec := { name := "numOrder", fn := fun _ => fun
  | [d] => { results := [.lit (.bool true)], args := [d] }
  | _ => none }
def numOrderRow : OpenClaim := { program := "ytedmbebieijofaa", sum := "fe5087b4bf3fb2258e58f12677f7d2f1ee71c03ded3c4fff46f398f016a40a8f", func := "daybook/daybooklaw04.NumOrder", spec := "numOrder", inPlace := ["math/bits.Add64"], apart := false }
def NumOrderSaid : Prop := numOrderRow.holds Try.pinned (OpenSpec.ofChange numOrderSpec)

/-- ITS FALSE NEIGHBOUR: 'it returns false'. Refute it at one input. -/
def numOrderWrong : ChangeSpec := { name := "numOrder", fn := fun _ => fun
  | [d] => { results := [.lit (.bool false)], args := [d] }
  | _ => none }
def NumOrderWrongFalsely : Prop := numOrderRow.holds Try.pinned (OpenSpec.ofChange numOrderWrong)

/-- 'daybooklaw04.NumDivs': WHATEVER THE INPUT: true; the input reads as it did. -/
def numDivsSpec : ChangeSpec := { name := "numDivs", fn := fun _ => fun
  | [d1, d2, d3] => { results := [.lit (.bool true)], args := [d1, d2, d3] }
  | _ => none }
def numDivsRow : OpenClaim := { program := "ytedmbebieijofaa", sum := "fe5087b4bf3fb2258e58f12677f7d2f1ee71c03ded3c4fff46f398f016a40a8f", func := "daybook/daybooklaw04.NumDivs", spec := "numDivs", inPlace := ["math/bits.Add64"], named := ["math/bits.divideError", "math/bits.overflowError"], apart := false }
def NumDivsSaid : Prop := numDivsRow.holds Try.pinned (OpenSpec.ofChange numDivsSpec)

/-- ITS FALSE NEIGHBOUR: 'it returns false'. Refute it at one input. -/
def numDivsWrong : ChangeSpec := { name := "numDivs", fn := fun _ => fun
  | [d1, d2, d3] => { results := [.lit (.bool false)], args := [d1, d2, d3] }
  | _ => none }
def NumDivsWrongFalsely : Prop := numDivsRow.holds Try.pinned (OpenSpec.ofChange numDivsWrong)

/-- 'daybooklaw04.NumAdds': WHATEVER THE INPUT: true; the input reads as it did. -/
def numAddsSpec : ChangeSpec := { name := "numAdds", fn := fun _ => fun
  | [d1, d2] => { results := [.lit (.bool true)], args := [d1, d2] }
  | _ => none }
def numAddsRow : OpenClaim := { program := "ytedmbebieijofaa", sum := "fe5087b4bf3fb2258e58f12677f7d2f1ee71c03ded3c4fff46f398f016a40a8f", func := "daybook/daybooklaw04.NumAdds", spec := "numAdds", inPlace := ["math/bits.Add64"], named := ["math/bits.divideError", "math/bits.overflowError"], apart := false }
def NumAddsSaid : Prop := numAddsRow.holds Try.pinned (OpenSpec.ofChange numAddsSpec)

/-- ITS FALSE NEIGHBOUR: 'it returns false'. Refute it at one input. -/
def numAddsWrong : ChangeSpec := { name := "numAdds", fn := fun _ => fun
  | [d1, d2] => { results := [.lit (.bool false)], args := [d1, d2] }
  | _ => none }
def NumAddsWrongFalsely : Prop := numAddsRow.holds Try.pinned (OpenSpec.ofChange numAddsWrong)

/-- 'daybooklaw04.NumSums': WHATEVER THE INPUT: true; the input reads as it did. -/
def numSumsSpec : ChangeSpec := { name := "numSums", fn := fun _ => fun
  | [d] => { results := [.lit (.bool true)], args := [d] }
  | _ => none }
def numSumsRow : OpenClaim := { program := "ytedmbebieijofaa", sum := "fe5087b4bf3fb2258e58f12677f7d2f1ee71c03ded3c4fff46f398f016a40a8f", func := "daybook/daybooklaw04.NumSums", spec := "numSums", inPlace := ["math/bits.Add64"], named := ["math/bits.divideError", "math/bits.overflowError"], apart := false }
def NumSumsSaid : Prop := numSumsRow.holds Try.pinned (OpenSpec.ofChange numSumsSpec)

/-- ITS FALSE NEIGHBOUR: 'it returns false'. Refute it at one input. -/
def numSumsWrong : ChangeSpec := { name := "numSums", fn := fun _ => fun
  | [d] => { results := [.lit (.bool false)], args := [d] }
  | _ => none }
def NumSumsWrongFalsely : Prop := numSumsRow.holds Try.pinned (OpenSpec.ofChange numSumsWrong)

/-- 'daybooklaw04.NumMuls': WHATEVER THE INPUT: true; the input reads as it did. -/
def numMulsSpec : ChangeSpec := { name := "numMuls", fn := fun _ => fun
  | [d1, d2] => { results := [.lit (.bool true)], args := [d1, d2] }
  | _ => none }
def numMulsRow : OpenClaim := { program := "ytedmbebieijofaa", sum := "fe5087b4bf3fb2258e58f12677f7d2f1ee71c03ded3c4fff46f398f016a40a8f", func := "daybook/daybooklaw04.NumMuls", spec := "numMuls", inPlace := ["math/bits.Add64"], named := ["math/bits.divideError", "math/bits.overflowError"], apart := false }
def NumMulsSaid : Prop := numMulsRow.holds Try.pinned (OpenSpec.ofChange numMulsSpec)

/-- ITS FALSE NEIGHBOUR: 'it returns false'. Refute it at one input. -/
def numMulsWrong : ChangeSpec := { name := "numMuls", fn := fun _ => fun
  | [d1, d2] => { results := [.lit (.bool false)], args := [d1, d2] }
  | _ => none }
def NumMulsWrongFalsely : Prop := numMulsRow.holds Try.pinned (OpenSpec.ofChange numMulsWrong)

/-- 'daybooklaw04.NumShares': WHATEVER THE INPUT: true; the input reads as it did. -/
def numSharesSpec : ChangeSpec := { name := "numShares", fn := fun _ => fun
  | [d1, d2] => { results := [.lit (.bool true)], args := [d1, d2] }
  | _ => none }
def numSharesRow : OpenClaim := { program := "ytedmbebieijofaa", sum := "fe5087b4bf3fb2258e58f12677f7d2f1ee71c03ded3c4fff46f398f016a40a8f", func := "daybook/daybooklaw04.NumShares", spec := "numShares", inPlace := ["math/bits.Add64"], named := ["math/bits.divideError", "math/bits.overflowError"], apart := false }
def NumSharesSaid : Prop := numSharesRow.holds Try.pinned (OpenSpec.ofChange numSharesSpec)

/-- ITS FALSE NEIGHBOUR: 'it returns false'. Refute it at one input. -/
def numSharesWrong : ChangeSpec := { name := "numShares", fn := fun _ => fun
  | [d1, d2] => { results := [.lit (.bool false)], args := [d1, d2] }
  | _ => none }
def NumSharesWrongFalsely : Prop := numSharesRow.holds Try.pinned (OpenSpec.ofChange numSharesWrong)

/-- 'daybooklaw04.NumShareWhole': WHATEVER THE INPUT: true; the input reads as it did. -/
def numShareWholeSpec : ChangeSpec := { name := "numShareWhole", fn := fun _ => fun
  | [d1, d2] => { results := [.lit (.bool true)], args := [d1, d2] }
  | _ => none }
def numShareWholeRow : OpenClaim := { program := "ytedmbebieijofaa", sum := "fe5087b4bf3fb2258e58f12677f7d2f1ee71c03ded3c4fff46f398f016a40a8f", func := "daybook/daybooklaw04.NumShareWhole", spec := "numShareWhole", inPlace := ["math/bits.Add64"], named := ["math/bits.divideError", "math/bits.overflowError"], apart := false }
def NumShareWholeSaid : Prop := numShareWholeRow.holds Try.pinned (OpenSpec.ofChange numShareWholeSpec)

/-- ITS FALSE NEIGHBOUR: 'it returns false'. Refute it at one input. -/
def numShareWholeWrong : ChangeSpec := { name := "numShareWhole", fn := fun _ => fun
  | [d1, d2] => { results := [.lit (.bool false)], args := [d1, d2] }
  | _ => none }
def NumShareWholeWrongFalsely : Prop := numShareWholeRow.holds Try.pinned (OpenSpec.ofChange numShareWholeWrong)

/-- 'daybooklaw04.NumBack': WHATEVER THE INPUT: true; the input reads as it did. -/
def numBackSpec : ChangeSpec := { name := "numBack", fn := fun _ => fun
  | [d1, d2] => { results := [.lit (.bool true)], args := [d1, d2] }
  | _ => none }
def numBackRow : OpenClaim := { program := "ytedmbebieijofaa", sum := "fe5087b4bf3fb2258e58f12677f7d2f1ee71c03ded3c4fff46f398f016a40a8f", func := "daybook/daybooklaw04.NumBack", spec := "numBack", inPlace := ["math/bits.Add64"], named := ["math/bits.divideError", "math/bits.overflowError"], apart := false }
def NumBackSaid : Prop := numBackRow.holds Try.pinned (OpenSpec.ofChange numBackSpec)

/-- ITS FALSE NEIGHBOUR: 'it returns false'. Refute it at one input. -/
def numBackWrong : ChangeSpec := { name := "numBack", fn := fun _ => fun
  | [d1, d2] => { results := [.lit (.bool false)], args := [d1, d2] }
  | _ => none }
def NumBackWrongFalsely : Prop := numBackRow.holds Try.pinned (OpenSpec.ofChange numBackWrong)

/-- 'daybooklaw04.NumShareFair': WHATEVER THE INPUT: true; the input reads as it did. -/
def numShareFairSpec : ChangeSpec := { name := "numShareFair", fn := fun _ => fun
  | [d1, d2] => { results := [.lit (.bool true)], args := [d1, d2] }
  | _ => none }
def numShareFairRow : OpenClaim := { program := "ytedmbebieijofaa", sum := "fe5087b4bf3fb2258e58f12677f7d2f1ee71c03ded3c4fff46f398f016a40a8f", func := "daybook/daybooklaw04.NumShareFair", spec := "numShareFair", inPlace := ["math/bits.Add64"], named := ["math/bits.divideError", "math/bits.overflowError"], apart := false }
def NumShareFairSaid : Prop := numShareFairRow.holds Try.pinned (OpenSpec.ofChange numShareFairSpec)

/-- ITS FALSE NEIGHBOUR: 'it returns false'. Refute it at one input. -/
def numShareFairWrong : ChangeSpec := { name := "numShareFair", fn := fun _ => fun
  | [d1, d2] => { results := [.lit (.bool false)], args := [d1, d2] }
  | _ => none }
def NumShareFairWrongFalsely : Prop := numShareFairRow.holds Try.pinned (OpenSpec.ofChange numShareFairWrong)

/- THE SECOND FORM. 'bulk': how many values and letters a reading holds, each counted each time it is reached (what is shared counts as often as it is met; a slice's spare places count too). A statement '..UptoSaid' is the law's where the arguments, and the package variables that the reading takes, are together of bulk at most 1048576: NARROWER than '..Said'. Prove '..Said' where nothing that the law and all that it calls make is longer than what came in: it says more and counts as full. Else prove '..UptoSaid'. A law counts once. -/
mutual
def uptoBulk {H : Type} : DataW H → Nat
  | .lit (.string bytes) => bytes.length + 1
  | .lit _ => 1
  | .nil => 1
  | .ptr d => uptoBulk d + 1
  | .slice elems spare => uptoBulkAll elems + uptoBulkAll spare + 1
  | .agg parts => uptoBulkAll parts + 1
  | .iface _ d => uptoBulk d + 1
  | .map entries => uptoBulkEntries entries + 1
  | .held _ => 1
def uptoBulkAll {H : Type} : List (DataW H) → Nat
  | [] => 0
  | d :: r => uptoBulk d + uptoBulkAll r
def uptoBulkEntries {H : Type} : List (Lit × DataW H) → Nat
  | [] => 0
  | x :: r => uptoBulkEntry x + uptoBulkEntries r
def uptoBulkEntry {H : Type} : Lit × DataW H → Nat
  | (.string bytes, d) => bytes.length + uptoBulk d + 1
  | (_, d) => uptoBulk d + 1
 end
def uptoSmall : (H : Type) → List (DataW H) → Bool := fun _ ds => decide (uptoBulkAll ds ≤ 1048576)
def OpenSpec.upto (s : _root_.Go.ChangeSpec) : _root_.Go.OpenSpec := { _root_.Go.OpenSpec.ofChange s with cond := some uptoSmall }

/-- 'daybooklaw04.NumOrder', WHERE WHAT IT READS IS OF BULK AT MOST 1048576: true; the input reads as it did. -/
def numOrderUptoRow : OpenClaim := { program := "ytedmbebieijofaa", sum := "fe5087b4bf3fb2258e58f12677f7d2f1ee71c03ded3c4fff46f398f016a40a8f", func := "daybook/daybooklaw04.NumOrder", spec := "numOrder", inPlace := ["math/bits.Add64"], apart := false, narrowed := true }
def NumOrderUptoSaid : Prop := numOrderUptoRow.holds Try.pinned (OpenSpec.upto numOrderSpec)

/-- 'daybooklaw04.NumDivs', WHERE WHAT IT READS IS OF BULK AT MOST 1048576: true; the input reads as it did. -/
def numDivsUptoRow : OpenClaim := { program := "ytedmbebieijofaa", sum := "fe5087b4bf3fb2258e58f12677f7d2f1ee71c03ded3c4fff46f398f016a40a8f", func := "daybook/daybooklaw04.NumDivs", spec := "numDivs", inPlace := ["math/bits.Add64"], named := ["math/bits.divideError", "math/bits.overflowError"], apart := false, narrowed := true }
def NumDivsUptoSaid : Prop := numDivsUptoRow.holds Try.pinned (OpenSpec.upto numDivsSpec)

/-- 'daybooklaw04.NumAdds', WHERE WHAT IT READS IS OF BULK AT MOST 1048576: true; the input reads as it did. -/
def numAddsUptoRow : OpenClaim := { program := "ytedmbebieijofaa", sum := "fe5087b4bf3fb2258e58f12677f7d2f1ee71c03ded3c4fff46f398f016a40a8f", func := "daybook/daybooklaw04.NumAdds", spec := "numAdds", inPlace := ["math/bits.Add64"], named := ["math/bits.divideError", "math/bits.overflowError"], apart := false, narrowed := true }
def NumAddsUptoSaid : Prop := numAddsUptoRow.holds Try.pinned (OpenSpec.upto numAddsSpec)

/-- 'daybooklaw04.NumSums', WHERE WHAT IT READS IS OF BULK AT MOST 1048576: true; the input reads as it did. -/
def numSumsUptoRow : OpenClaim := { program := "ytedmbebieijofaa", sum := "fe5087b4bf3fb2258e58f12677f7d2f1ee71c03ded3c4fff46f398f016a40a8f", func := "daybook/daybooklaw04.NumSums", spec := "numSums", inPlace := ["math/bits.Add64"], named := ["math/bits.divideError", "math/bits.overflowError"], apart := false, narrowed := true }
def NumSumsUptoSaid : Prop := numSumsUptoRow.holds Try.pinned (OpenSpec.upto numSumsSpec)

/-- 'daybooklaw04.NumMuls', WHERE WHAT IT READS IS OF BULK AT MOST 1048576: true; the input reads as it did. -/
def numMulsUptoRow : OpenClaim := { program := "ytedmbebieijofaa", sum := "fe5087b4bf3fb2258e58f12677f7d2f1ee71c03ded3c4fff46f398f016a40a8f", func := "daybook/daybooklaw04.NumMuls", spec := "numMuls", inPlace := ["math/bits.Add64"], named := ["math/bits.divideError", "math/bits.overflowError"], apart := false, narrowed := true }
def NumMulsUptoSaid : Prop := numMulsUptoRow.holds Try.pinned (OpenSpec.upto numMulsSpec)

/-- 'daybooklaw04.NumShares', WHERE WHAT IT READS IS OF BULK AT MOST 1048576: true; the input reads as it did. -/
def numSharesUptoRow : OpenClaim := { program := "ytedmbebieijofaa", sum := "fe5087b4bf3fb2258e58f12677f7d2f1ee71c03ded3c4fff46f398f016a40a8f", func := "daybook/daybooklaw04.NumShares", spec := "numShares", inPlace := ["math/bits.Add64"], named := ["math/bits.divideError", "math/bits.overflowError"], apart := false, narrowed := true }
def NumSharesUptoSaid : Prop := numSharesUptoRow.holds Try.pinned (OpenSpec.upto numSharesSpec)

/-- 'daybooklaw04.NumShareWhole', WHERE WHAT IT READS IS OF BULK AT MOST 1048576: true; the input reads as it did. -/
def numShareWholeUptoRow : OpenClaim := { program := "ytedmbebieijofaa", sum := "fe5087b4bf3fb2258e58f12677f7d2f1ee71c03ded3c4fff46f398f016a40a8f", func := "daybook/daybooklaw04.NumShareWhole", spec := "numShareWhole", inPlace := ["math/bits.Add64"], named := ["math/bits.divideError", "math/bits.overflowError"], apart := false, narrowed := true }
def NumShareWholeUptoSaid : Prop := numShareWholeUptoRow.holds Try.pinned (OpenSpec.upto numShareWholeSpec)

/-- 'daybooklaw04.NumBack', WHERE WHAT IT READS IS OF BULK AT MOST 1048576: true; the input reads as it did. -/
def numBackUptoRow : OpenClaim := { program := "ytedmbebieijofaa", sum := "fe5087b4bf3fb2258e58f12677f7d2f1ee71c03ded3c4fff46f398f016a40a8f", func := "daybook/daybooklaw04.NumBack", spec := "numBack", inPlace := ["math/bits.Add64"], named := ["math/bits.divideError", "math/bits.overflowError"], apart := false, narrowed := true }
def NumBackUptoSaid : Prop := numBackUptoRow.holds Try.pinned (OpenSpec.upto numBackSpec)

/-- 'daybooklaw04.NumShareFair', WHERE WHAT IT READS IS OF BULK AT MOST 1048576: true; the input reads as it did. -/
def numShareFairUptoRow : OpenClaim := { program := "ytedmbebieijofaa", sum := "fe5087b4bf3fb2258e58f12677f7d2f1ee71c03ded3c4fff46f398f016a40a8f", func := "daybook/daybooklaw04.NumShareFair", spec := "numShareFair", inPlace := ["math/bits.Add64"], named := ["math/bits.divideError", "math/bits.overflowError"], apart := false, narrowed := true }
def NumShareFairUptoSaid : Prop := numShareFairUptoRow.holds Try.pinned (OpenSpec.upto numShareFairSpec)

end Rows
end Go.Proofs.Ytedmbebieijofaa
