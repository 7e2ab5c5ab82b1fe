/-
  No cell of these rows narrows 'for every input' (looked for: loops, veiled, ifaces, maps, wideKeys, modest, calm, conditions, laid).
  DERIVED. THE GIVEN ROWS OF THIS SEAT. 10 by the template 'for every input the law returns true; each argument reads behind the call as it read before'; 0 by the template 'total and deterministic' (their statements: YtomnllkliifeoaaTotals.lean).
  GIVEN WITH THE SEED: the statements are not yours to turn. If you find one false, say at which input.
  Laid BY PROGRAM, IN A SANDBOX (cutbox-rows.mjs): the forced cells as the released guide's own fill.sh prints them over the translation 4551c2f2a4473099… (all of the seat's roots in one cut). By AI agents, Wed Nov 11 2026. No macro, syntax, notation, axiom, sorry.
-/
import Derived.Test.YtomnllkliifeoaaChecked
import GoSem.Claim
import GoSem.ClaimJoined
import GoSem.ClaimMapViews
import Derived.JoinedTies
import Derived.KernelRfl
namespace Go.Proofs.Ytomnllkliifeoaa
/- THE CELL 'sum', in the pinned program and in every row, IS THE sha256 OF THE DUMP (.gsa) THAT YtomnllkliifeoaaProg.lean LOADS. Nothing in Lean hashes anything: it is a label: what it is worth is what the hold of that sum in a sandbox is worth. -/
noncomputable def Try.pinned : Pinned := { name := "ytomnllkliifeoaa", sum := "4551c2f2a4473099f3b3130a0302a64a974753b3a2777177e3eb2bd392d399e3", checked := Try.checked }
namespace Rows
def none {H : Type} : Left H := { results := [], args := [] }

/-- 'daybooklaw10.SimfsRights': WHATEVER THE INPUT: true; the input reads as it did. -/
def simfsRightsSpec : ChangeSpec := { name := "simfsRights", fn := fun _ => fun
  | [d] => { results := [.lit (.bool true)], args := [d] }
  | _ => none }
def simfsRightsRow : OpenClaim := { program := "ytomnllkliifeoaa", sum := "4551c2f2a4473099f3b3130a0302a64a974753b3a2777177e3eb2bd392d399e3", func := "daybook/daybooklaw10.SimfsRights", spec := "simfsRights", apart := false }
def SimfsRightsSaid : Prop := simfsRightsRow.holds Try.pinned (OpenSpec.ofChange simfsRightsSpec)

/-- ITS FALSE NEIGHBOUR: 'it returns false'. Refute it at one input. -/
def simfsRightsWrong : ChangeSpec := { name := "simfsRights", fn := fun _ => fun
  | [d] => { results := [.lit (.bool false)], args := [d] }
  | _ => none }
def SimfsRightsWrongFalsely : Prop := simfsRightsRow.holds Try.pinned (OpenSpec.ofChange simfsRightsWrong)

/-- 'daybooklaw10.SimfsSafe': WHATEVER THE INPUT: true; the input reads as it did. -/
def simfsSafeSpec : ChangeSpec := { name := "simfsSafe", fn := fun _ => fun
  | [d1, d2, d3] => { results := [.lit (.bool true)], args := [d1, d2, d3] }
  | _ => none }
def simfsSafeRow : OpenClaim := { program := "ytomnllkliifeoaa", sum := "4551c2f2a4473099f3b3130a0302a64a974753b3a2777177e3eb2bd392d399e3", func := "daybook/daybooklaw10.SimfsSafe", spec := "simfsSafe", recurses := true, apart := false }
def SimfsSafeSaid : Prop := simfsSafeRow.holds Try.pinned (OpenSpec.ofChange simfsSafeSpec)

/-- ITS FALSE NEIGHBOUR: 'it returns false'. Refute it at one input. -/
def simfsSafeWrong : ChangeSpec := { name := "simfsSafe", fn := fun _ => fun
  | [d1, d2, d3] => { results := [.lit (.bool false)], args := [d1, d2, d3] }
  | _ => none }
def SimfsSafeWrongFalsely : Prop := simfsSafeRow.holds Try.pinned (OpenSpec.ofChange simfsSafeWrong)

/-- 'daybooklaw10.SimfsSwaps': WHATEVER THE INPUT: true; the input reads as it did. -/
def simfsSwapsSpec : ChangeSpec := { name := "simfsSwaps", fn := fun _ => fun
  | [d1, d2, d3, d4] => { results := [.lit (.bool true)], args := [d1, d2, d3, d4] }
  | _ => none }
def simfsSwapsRow : OpenClaim := { program := "ytomnllkliifeoaa", sum := "4551c2f2a4473099f3b3130a0302a64a974753b3a2777177e3eb2bd392d399e3", func := "daybook/daybooklaw10.SimfsSwaps", spec := "simfsSwaps", recurses := true, apart := false }
def SimfsSwapsSaid : Prop := simfsSwapsRow.holds Try.pinned (OpenSpec.ofChange simfsSwapsSpec)

/-- ITS FALSE NEIGHBOUR: 'it returns false'. Refute it at one input. -/
def simfsSwapsWrong : ChangeSpec := { name := "simfsSwaps", fn := fun _ => fun
  | [d1, d2, d3, d4] => { results := [.lit (.bool false)], args := [d1, d2, d3, d4] }
  | _ => none }
def SimfsSwapsWrongFalsely : Prop := simfsSwapsRow.holds Try.pinned (OpenSpec.ofChange simfsSwapsWrong)

/-- 'daybooklaw10.SimfsRoom': WHATEVER THE INPUT: true; the input reads as it did. -/
def simfsRoomSpec : ChangeSpec := { name := "simfsRoom", fn := fun _ => fun
  | [d1, d2] => { results := [.lit (.bool true)], args := [d1, d2] }
  | _ => none }
def simfsRoomRow : OpenClaim := { program := "ytomnllkliifeoaa", sum := "4551c2f2a4473099f3b3130a0302a64a974753b3a2777177e3eb2bd392d399e3", func := "daybook/daybooklaw10.SimfsRoom", spec := "simfsRoom", recurses := true, apart := false }
def SimfsRoomSaid : Prop := simfsRoomRow.holds Try.pinned (OpenSpec.ofChange simfsRoomSpec)

/-- ITS FALSE NEIGHBOUR: 'it returns false'. Refute it at one input. -/
def simfsRoomWrong : ChangeSpec := { name := "simfsRoom", fn := fun _ => fun
  | [d1, d2] => { results := [.lit (.bool false)], args := [d1, d2] }
  | _ => none }
def SimfsRoomWrongFalsely : Prop := simfsRoomRow.holds Try.pinned (OpenSpec.ofChange simfsRoomWrong)

/-- 'daybooklaw10.SimfsFuse': WHATEVER THE INPUT: true; the input reads as it did. -/
def simfsFuseSpec : ChangeSpec := { name := "simfsFuse", fn := fun _ => fun
  | [d1, d2, d3] => { results := [.lit (.bool true)], args := [d1, d2, d3] }
  | _ => none }
def simfsFuseRow : OpenClaim := { program := "ytomnllkliifeoaa", sum := "4551c2f2a4473099f3b3130a0302a64a974753b3a2777177e3eb2bd392d399e3", func := "daybook/daybooklaw10.SimfsFuse", spec := "simfsFuse", recurses := true, apart := false }
def SimfsFuseSaid : Prop := simfsFuseRow.holds Try.pinned (OpenSpec.ofChange simfsFuseSpec)

/-- ITS FALSE NEIGHBOUR: 'it returns false'. Refute it at one input. -/
def simfsFuseWrong : ChangeSpec := { name := "simfsFuse", fn := fun _ => fun
  | [d1, d2, d3] => { results := [.lit (.bool false)], args := [d1, d2, d3] }
  | _ => none }
def SimfsFuseWrongFalsely : Prop := simfsFuseRow.holds Try.pinned (OpenSpec.ofChange simfsFuseWrong)

/-- 'daybooklaw10.SimfsRuns': WHATEVER THE INPUT: true; the input reads as it did. -/
def simfsRunsSpec : ChangeSpec := { name := "simfsRuns", fn := fun _ => fun
  | [d1, d2] => { results := [.lit (.bool true)], args := [d1, d2] }
  | _ => none }
def simfsRunsRow : OpenClaim := { program := "ytomnllkliifeoaa", sum := "4551c2f2a4473099f3b3130a0302a64a974753b3a2777177e3eb2bd392d399e3", func := "daybook/daybooklaw10.SimfsRuns", spec := "simfsRuns", recurses := true, apart := false }
def SimfsRunsSaid : Prop := simfsRunsRow.holds Try.pinned (OpenSpec.ofChange simfsRunsSpec)

/-- ITS FALSE NEIGHBOUR: 'it returns false'. Refute it at one input. -/
def simfsRunsWrong : ChangeSpec := { name := "simfsRuns", fn := fun _ => fun
  | [d1, d2] => { results := [.lit (.bool false)], args := [d1, d2] }
  | _ => none }
def SimfsRunsWrongFalsely : Prop := simfsRunsRow.holds Try.pinned (OpenSpec.ofChange simfsRunsWrong)

/-- 'daybooklaw10.SimfsOwn': WHATEVER THE INPUT: true; the input reads as it did. -/
def simfsOwnSpec : ChangeSpec := { name := "simfsOwn", fn := fun _ => fun
  | [d1, d2] => { results := [.lit (.bool true)], args := [d1, d2] }
  | _ => none }
def simfsOwnRow : OpenClaim := { program := "ytomnllkliifeoaa", sum := "4551c2f2a4473099f3b3130a0302a64a974753b3a2777177e3eb2bd392d399e3", func := "daybook/daybooklaw10.SimfsOwn", spec := "simfsOwn", recurses := true, apart := false }
def SimfsOwnSaid : Prop := simfsOwnRow.holds Try.pinned (OpenSpec.ofChange simfsOwnSpec)

/-- ITS FALSE NEIGHBOUR: 'it returns false'. Refute it at one input. -/
def simfsOwnWrong : ChangeSpec := { name := "simfsOwn", fn := fun _ => fun
  | [d1, d2] => { results := [.lit (.bool false)], args := [d1, d2] }
  | _ => none }
def SimfsOwnWrongFalsely : Prop := simfsOwnRow.holds Try.pinned (OpenSpec.ofChange simfsOwnWrong)

/-- 'daybooklaw10.SimfsLoses': WHATEVER THE INPUT: true; the input reads as it did. -/
def simfsLosesSpec : ChangeSpec := { name := "simfsLoses", fn := fun _ => fun
  | [d1, d2, d3, d4] => { results := [.lit (.bool true)], args := [d1, d2, d3, d4] }
  | _ => none }
def simfsLosesRow : OpenClaim := { program := "ytomnllkliifeoaa", sum := "4551c2f2a4473099f3b3130a0302a64a974753b3a2777177e3eb2bd392d399e3", func := "daybook/daybooklaw10.SimfsLoses", spec := "simfsLoses", recurses := true, apart := false }
def SimfsLosesSaid : Prop := simfsLosesRow.holds Try.pinned (OpenSpec.ofChange simfsLosesSpec)

/-- ITS FALSE NEIGHBOUR: 'it returns false'. Refute it at one input. -/
def simfsLosesWrong : ChangeSpec := { name := "simfsLoses", fn := fun _ => fun
  | [d1, d2, d3, d4] => { results := [.lit (.bool false)], args := [d1, d2, d3, d4] }
  | _ => none }
def SimfsLosesWrongFalsely : Prop := simfsLosesRow.holds Try.pinned (OpenSpec.ofChange simfsLosesWrong)

/-- 'daybooklaw10.SimfsMounts': WHATEVER THE INPUT: true; the input reads as it did. -/
def simfsMountsSpec : ChangeSpec := { name := "simfsMounts", fn := fun _ => fun
  | [d1, d2] => { results := [.lit (.bool true)], args := [d1, d2] }
  | _ => none }
def simfsMountsRow : OpenClaim := { program := "ytomnllkliifeoaa", sum := "4551c2f2a4473099f3b3130a0302a64a974753b3a2777177e3eb2bd392d399e3", func := "daybook/daybooklaw10.SimfsMounts", spec := "simfsMounts", recurses := true, apart := false }
def SimfsMountsSaid : Prop := simfsMountsRow.holds Try.pinned (OpenSpec.ofChange simfsMountsSpec)

/-- ITS FALSE NEIGHBOUR: 'it returns false'. Refute it at one input. -/
def simfsMountsWrong : ChangeSpec := { name := "simfsMounts", fn := fun _ => fun
  | [d1, d2] => { results := [.lit (.bool false)], args := [d1, d2] }
  | _ => none }
def SimfsMountsWrongFalsely : Prop := simfsMountsRow.holds Try.pinned (OpenSpec.ofChange simfsMountsWrong)

/-- 'daybooklaw10.SimfsImages': WHATEVER THE INPUT: true; the input reads as it did. -/
def simfsImagesSpec : ChangeSpec := { name := "simfsImages", fn := fun _ => fun
  | [d1, d2, d3] => { results := [.lit (.bool true)], args := [d1, d2, d3] }
  | _ => none }
def simfsImagesRow : OpenClaim := { program := "ytomnllkliifeoaa", sum := "4551c2f2a4473099f3b3130a0302a64a974753b3a2777177e3eb2bd392d399e3", func := "daybook/daybooklaw10.SimfsImages", spec := "simfsImages", recurses := true, apart := false }
def SimfsImagesSaid : Prop := simfsImagesRow.holds Try.pinned (OpenSpec.ofChange simfsImagesSpec)

/-- ITS FALSE NEIGHBOUR: 'it returns false'. Refute it at one input. -/
def simfsImagesWrong : ChangeSpec := { name := "simfsImages", fn := fun _ => fun
  | [d1, d2, d3] => { results := [.lit (.bool false)], args := [d1, d2, d3] }
  | _ => none }
def SimfsImagesWrongFalsely : Prop := simfsImagesRow.holds Try.pinned (OpenSpec.ofChange simfsImagesWrong)

/- THE SECOND FORM. 'bulk': how many values and letters a reading holds, each counted each time it is reached (what is shared counts as often as it is met; a slice's spare places count too). A statement '..UptoSaid' is the law's where the arguments, and the package variables that the reading takes, are together of bulk at most 1048576: NARROWER than '..Said'. Prove '..Said' where nothing that the law and all that it calls make is longer than what came in: it says more and counts as full. Else prove '..UptoSaid'. A law counts once. -/
mutual
def uptoBulk {H : Type} : DataW H → Nat
  | .lit (.string bytes) => bytes.length + 1
  | .lit _ => 1
  | .nil => 1
  | .ptr d => uptoBulk d + 1
  | .slice elems spare => uptoBulkAll elems + uptoBulkAll spare + 1
  | .agg parts => uptoBulkAll parts + 1
  | .iface _ d => uptoBulk d + 1
  | .map entries => uptoBulkEntries entries + 1
  | .held _ => 1
def uptoBulkAll {H : Type} : List (DataW H) → Nat
  | [] => 0
  | d :: r => uptoBulk d + uptoBulkAll r
def uptoBulkEntries {H : Type} : List (Lit × DataW H) → Nat
  | [] => 0
  | x :: r => uptoBulkEntry x + uptoBulkEntries r
def uptoBulkEntry {H : Type} : Lit × DataW H → Nat
  | (.string bytes, d) => bytes.length + uptoBulk d + 1
  | (_, d) => uptoBulk d + 1
 end
def uptoSmall : (H : Type) → List (DataW H) → Bool := fun _ ds => decide (uptoBulkAll ds ≤ 1048576)
def OpenSpec.upto (s : _root_.Go.ChangeSpec) : _root_.Go.OpenSpec := { _root_.Go.OpenSpec.ofChange s with cond := some uptoSmall }

/-- 'daybooklaw10.SimfsRights', WHERE WHAT IT READS IS OF BULK AT MOST 1048576: true; the input reads as it did. -/
def simfsRightsUptoRow : OpenClaim := { program := "ytomnllkliifeoaa", sum := "4551c2f2a4473099f3b3130a0302a64a974753b3a2777177e3eb2bd392d399e3", func := "daybook/daybooklaw10.SimfsRights", spec := "simfsRights", apart := false, narrowed := true }
def SimfsRightsUptoSaid : Prop := simfsRightsUptoRow.holds Try.pinned (OpenSpec.upto simfsRightsSpec)

/-- 'daybooklaw10.SimfsSafe', WHERE WHAT IT READS IS OF BULK AT MOST 1048576: true; the input reads as it did. -/
def simfsSafeUptoRow : OpenClaim := { program := "ytomnllkliifeoaa", sum := "4551c2f2a4473099f3b3130a0302a64a974753b3a2777177e3eb2bd392d399e3", func := "daybook/daybooklaw10.SimfsSafe", spec := "simfsSafe", recurses := true, apart := false, narrowed := true }
def SimfsSafeUptoSaid : Prop := simfsSafeUptoRow.holds Try.pinned (OpenSpec.upto simfsSafeSpec)

/-- 'daybooklaw10.SimfsSwaps', WHERE WHAT IT READS IS OF BULK AT MOST 1048576: true; the input reads as it did. -/
def simfsSwapsUptoRow : OpenClaim := { program := "ytomnllkliifeoaa", sum := "4551c2f2a4473099f3b3130a0302a64a974753b3a2777177e3eb2bd392d399e3", func := "daybook/daybooklaw10.SimfsSwaps", spec := "simfsSwaps", recurses := true, apart := false, narrowed := true }
def SimfsSwapsUptoSaid : Prop := simfsSwapsUptoRow.holds Try.pinned (OpenSpec.upto simfsSwapsSpec)

/-- 'daybooklaw10.SimfsRoom', WHERE WHAT IT READS IS OF BULK AT MOST 1048576: true; the input reads as it did. -/
def simfsRoomUptoRow : OpenClaim := { program := "ytomnllkliifeoaa", sum := "4551c2f2a4473099f3b3130a0302a64a974753b3a2777177e3eb2bd392d399e3", func := "daybook/daybooklaw10.SimfsRoom", spec := "simfsRoom", recurses := true, apart := false, narrowed := true }
def SimfsRoomUptoSaid : Prop := simfsRoomUptoRow.holds Try.pinned (OpenSpec.upto simfsRoomSpec)

/-- 'daybooklaw10.SimfsFuse', WHERE WHAT IT READS IS OF BULK AT MOST 1048576: true; the input reads as it did. -/
def simfsFuseUptoRow : OpenClaim := { program := "ytomnllkliifeoaa", sum := "4551c2f2a4473099f3b3130a0302a64a974753b3a2777177e3eb2bd392d399e3", func := "daybook/daybooklaw10.SimfsFuse", spec := "simfsFuse", recurses := true, apart := false, narrowed := true }
def SimfsFuseUptoSaid : Prop := simfsFuseUptoRow.holds Try.pinned (OpenSpec.upto simfsFuseSpec)

/-- 'daybooklaw10.SimfsRuns', WHERE WHAT IT READS IS OF BULK AT MOST 1048576: true; the input reads as it did. -/
def simfsRunsUptoRow : OpenClaim := { program := "ytomnllkliifeoaa", sum := "4551c2f2a4473099f3b3130a0302a64a974753b3a2777177e3eb2bd392d399e3", func := "daybook/daybooklaw10.SimfsRuns", spec := "simfsRuns", recurses := true, apart := false, narrowed := true }
def SimfsRunsUptoSaid : Prop := simfsRunsUptoRow.holds Try.pinned (OpenSpec.upto simfsRunsSpec)

/-- 'daybooklaw10.SimfsOwn', WHERE WHAT IT READS IS OF BULK AT MOST 1048576: true; the input reads as it did. -/
def simfsOwnUptoRow : OpenClaim := { program := "ytomnllkliifeoaa", sum := "4551c2f2a4473099f3b3130a0302a64a974753b3a2777177e3eb2bd392d399e3", func := "daybook/daybooklaw10.SimfsOwn", spec := "simfsOwn", recurses := true, apart := false, narrowed := true }
def SimfsOwnUptoSaid : Prop := simfsOwnUptoRow.holds Try.pinned (OpenSpec.upto simfsOwnSpec)

/-- 'daybooklaw10.SimfsLoses', WHERE WHAT IT READS IS OF BULK AT MOST 1048576: true; the input reads as it did. -/
def simfsLosesUptoRow : OpenClaim := { program := "ytomnllkliifeoaa", sum := "4551c2f2a4473099f3b3130a0302a64a974753b3a2777177e3eb2bd392d399e3", func := "daybook/daybooklaw10.SimfsLoses", spec := "simfsLoses", recurses := true, apart := false, narrowed := true }
def SimfsLosesUptoSaid : Prop := simfsLosesUptoRow.holds Try.pinned (OpenSpec.upto simfsLosesSpec)

/-- 'daybooklaw10.SimfsMounts', WHERE WHAT IT READS IS OF BULK AT MOST 1048576: true; the input reads as it did. -/
def simfsMountsUptoRow : OpenClaim := { program := "ytomnllkliifeoaa", sum := "4551c2f2a4473099f3b3130a0302a64a974753b3a2777177e3eb2bd392d399e3", func := "daybook/daybooklaw10.SimfsMounts", spec := "simfsMounts", recurses := true, apart := false, narrowed := true }
def SimfsMountsUptoSaid : Prop := simfsMountsUptoRow.holds Try.pinned (OpenSpec.upto simfsMountsSpec)

/-- 'daybooklaw10.SimfsImages', WHERE WHAT IT READS IS OF BULK AT MOST 1048576: true; the input reads as it did. -/
def simfsImagesUptoRow : OpenClaim := { program := "ytomnllkliifeoaa", sum := "4551c2f2a4473099f3b3130a0302a64a974753b3a2777177e3eb2bd392d399e3", func := "daybook/daybooklaw10.SimfsImages", spec := "simfsImages", recurses := true, apart := false, narrowed := true }
def SimfsImagesUptoSaid : Prop := simfsImagesUptoRow.holds Try.pinned (OpenSpec.upto simfsImagesSpec)

end Rows
end Go.Proofs.Ytomnllkliifeoaa
