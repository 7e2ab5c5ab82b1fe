/-
  A struct result in memory with a plain one beside it.
-/
import Derived.Test.YtjajbbgebblalaaGreatDoorSteps
namespace Go.Proofs.YtjajbbgebblalaaGreatDoor
open Go.RowKit
set_option linter.unusedVariables false
set_option linter.unusedSimpArgs false
theorem res_row_t {P : Program} {w : World} {fn : Func} {p u : Tmp} {ty : TypeId} (h : fn.results = #[.cell p ty, .tmp u]) (tmps : Array Value) (g : Nat) (t : TypeId) (cs : Array Value) (n : Nat) (x : Value)
    (hp : tmps.getD p undef = .pointer (some ⟨g, 0, none⟩)) (hu : tmps.getD u undef = x) (hb : Blk w g t cs) (hw : Wide P ty n) (hn : cs.size = n) : (results fn tmps).run P w = .ok (.tuple #[.agg cs, x]) w := by
  have hp' : tmps[p]?.getD undef = .pointer (some ⟨g, 0, none⟩) := by simpa using hp
  have hu' : tmps[u]?.getD undef = x := by simpa using hu
  simp [results, h, hp', hu', asAddr, run_loadVar_blk hb hw hn]
end Go.Proofs.YtjajbbgebblalaaGreatDoor
