/-
  Theorems whose one hypothesis fills itself: they stand for long rows of tactics.
-/
import Derived.Test.YtjajbbgebblalaaGreatDoorBase
namespace Go.Proofs.YtjajbbgebblalaaGreatDoor
open Go.RowKit
set_option linter.unusedVariables false
set_option linter.unusedSimpArgs false
section
variable {w w' : World} {g : Nat} {t : TypeId} {cs : Array Value}
theorem exA {a w : World} (h : Ext a w := by ((repeat (first | with_reducible exact Below.refl _ _ | with_reducible assumption | with_reducible refine ExtD ?_ | with_reducible refine ExtDN ?_ | with_reducible refine ExtA ?_ | (with_reducible refine ExtR ?_ ?_; (first | omega | (dsimp only; omega) | (simp; done) | (simp; omega))) | (with_reducible refine ExtS ?_ ?_; (first | omega | (dsimp only; omega) | (simp; done) | (simp; omega))) | with_reducible refine Ext.tr ?_ (by with_reducible assumption))); done)) : Ext a w := h
theorem bkV (h : Blk w g t cs := by ((repeat (first | with_reducible assumption | (with_reducible refine BlkN ?_; (first | rfl | (first | omega | (dsimp only; omega) | (simp; done) | (simp; omega)))) | with_reducible refine BlkD ?_ | with_reducible refine BlkDN ?_ | with_reducible refine BlkA ?_ | (with_reducible refine BlkF ?_ ?_; (first | omega | (dsimp only; omega) | (simp; done) | (simp; omega))) | with_reducible refine BlkE ?_ (by with_reducible assumption))); done)) : Blk w g t cs := h
theorem bkA (h : Blk w g t cs := by ((repeat (first | with_reducible assumption | (with_reducible refine BlkN ?_; (first | rfl | (first | omega | (dsimp only; omega) | (simp; done) | (simp; omega)))) | with_reducible refine BlkD ?_ | with_reducible refine BlkDN ?_ | with_reducible refine BlkA ?_ | with_reducible refine BlkE ?_ (by with_reducible assumption) | with_reducible refine BlkS ?_ | (with_reducible refine BlkF ?_ ?_; (first | omega | (dsimp only; omega) | (simp; done) | (simp; omega))) | (with_reducible refine BlkR ?_ ?_; (first | omega | (dsimp only; omega) | (simp; done) | (simp; omega))))); done)) : Blk w g t cs := h
end
end Go.Proofs.YtjajbbgebblalaaGreatDoor
