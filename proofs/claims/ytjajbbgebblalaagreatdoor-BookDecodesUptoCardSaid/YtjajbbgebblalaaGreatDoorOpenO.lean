/-
  Arguments opened: states and events.
-/
/-
  A slice of events that comes in: its length is no more than its capacity.
-/
/-
  A slice of states that comes in; what the bulk's bound gives.
-/
import Derived.Test.YtjajbbgebblalaaGreatDoorOrdW
import Derived.Test.YtjajbbgebblalaaGreatDoorOpenS
import Derived.ProofKit
import Derived.OpenShut
import Derived.SizedLaws
import Derived.Deep.Slices
import Derived.Deep.Fields
import Derived.ChangeSame
import Derived.Test.YtjajbbgebblalaaGreatDoorSsW
import Derived.Test.YtjajbbgebblalaaGreatDoorRows
namespace Go.Proofs.YtjajbbgebblalaaGreatDoor
open Go.RowKit
set_option linter.unusedVariables false
set_option linter.unusedSimpArgs false
open Go.ChangeShapes Go.WideShapes Go.Deep
section
variable {H : Type} {enc : TypeId × Value → H} {w : World} {base : Nat} {spare : Nat → Bool} {held : Bool}
end
end Go.Proofs.YtjajbbgebblalaaGreatDoor

namespace Go.Proofs.YtjajbbgebblalaaGreatDoor
open Go.RowKit
set_option linter.unusedVariables false
set_option linter.unusedSimpArgs false
open Go.ChangeShapes Go.WideShapes Go.Deep
end Go.Proofs.YtjajbbgebblalaaGreatDoor

namespace Go.Proofs.YtjajbbgebblalaaGreatDoor
open Go.RowKit
set_option linter.unusedVariables false
set_option linter.unusedSimpArgs false
open Go.ChangeShapes Go.WideShapes Go.Deep
section
variable {H : Type} {enc : TypeId × Value → H} {w : World} {base : Nat} {spare : Nat → Bool} {held : Bool}
theorem bulk_one (d : DataW H) : 1 ≤ Rows.uptoBulk d := by
  cases d with
  | lit l => cases l <;> simp [Rows.uptoBulk]
  | nil => simp [Rows.uptoBulk]
  | ptr d => simp [Rows.uptoBulk]
  | slice elems spare => simp [Rows.uptoBulk]
  | agg parts => simp [Rows.uptoBulk]
  | iface t d => simp [Rows.uptoBulk]
  | map entries => simp [Rows.uptoBulk]
  | held h => simp [Rows.uptoBulk]
theorem bulk_part {d : DataW H} {l : List (DataW H)} (h : d ∈ l) : Rows.uptoBulk d ≤ Rows.uptoBulkAll l := by
  induction l with
  | nil => cases h
  | cons x r ih =>
    simp only [Rows.uptoBulkAll]
    cases List.mem_cons.1 h with
    | inl e => subst e; omega
    | inr e => have := ih e; omega
theorem bulk_len (l : List (DataW H)) : l.length ≤ Rows.uptoBulkAll l := by
  induction l with
  | nil => simp [Rows.uptoBulkAll]
  | cons x r ih => have := bulk_one x; simp only [Rows.uptoBulkAll, List.length_cons]; omega
/-- A slice's length is within the bulk. -/
theorem bulk_slice {P : Program} {t e : TypeId} {fuel n c : Nat} {A : Option Addr} {y : DataW H × List MemPlace} (hu : P.underlying t = some (.slice e)) (h : DataW.trod enc P w base spare held fuel t [.slice A n c] = some y) : n ≤ Rows.uptoBulk y.1 := by
  rcases DataW.trod_slice hu h with ⟨h1, _⟩ | ⟨a, len, cap, elems, rest, m, _, h1, rfl, _, _, _, hlen, _⟩
  · simp at h1
    omega
  · simp at h1
    have h2 := bulk_len (elems.map (·.1))
    simp only [Rows.uptoBulk, List.length_map] at h2 ⊢
    omega
theorem bulk_max {l : List (DataW H)} (hk : Rows.uptoSmall H l = true) : Rows.uptoBulkAll l ≤ 1048576 := of_decide_eq_true hk
theorem bulk_arg {l : List (DataW H)} (hk : Rows.uptoSmall H l = true) {P : Program} {t e : TypeId} {fuel n c j : Nat} {A : Option Addr} {y : DataW H × List MemPlace} (hu : P.underlying t = some (.slice e)) (h : DataW.trod enc P w base spare held fuel t [.slice A n c] = some y) (hj : l[j]? = some y.1) : n ≤ 1048576 := by
  have h1 := bulk_slice hu h
  have h2 := bulk_part (List.mem_of_getElem? hj)
  have h3 := bulk_max hk
  omega
end
end Go.Proofs.YtjajbbgebblalaaGreatDoor
