/-
  The walk of the reference's Copy of fields; rows of fields of the call's own.
-/
import Derived.Test.YtjomgppbialeoaaDoorFsW
namespace Go.Proofs.YtjomgppbialeoaaDoor
open Go.RowKit
set_option linter.unusedVariables false
set_option linter.unusedSimpArgs false
theorem fsCells_one (hs : List Held) : ∀ u ∈ fsCells hs, u.oneCell' = true := fun u hu => by
  simp only [fsCells, List.mem_flatMap] at hu
  obtain ⟨h, _, hu⟩ := hu
  exact fcells_one _ _ _ u hu
theorem own_ne2 {w : World} {base base2 : Nat} {e e2 : TypeId} {s s2 : Nat} {v v2 : Value} {n n2 : Nat} {xs ys : List Value} (h : w.ownsRow base e s v n xs) (h2 : w.ownsRow base2 e2 s2 v2 n2 ys) (he : e ≠ e2) : v.ownBlock = none ∨ v.ownBlock ≠ v2.ownBlock :=
  own_ne (own_base h (Nat.min_le_left base base2)) (own_base h2 (Nat.min_le_right base base2)) he
section
variable {w : World}
end
end Go.Proofs.YtjomgppbialeoaaDoor
