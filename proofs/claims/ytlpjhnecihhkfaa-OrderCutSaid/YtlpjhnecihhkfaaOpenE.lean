/-
  A slice of events that comes in: its length is no more than its capacity.
-/
import Derived.Test.YtlpjhnecihhkfaaOpenO
namespace Go.Proofs.Ytlpjhnecihhkfaa
open Go.RowKit
set_option linter.unusedVariables false
set_option linter.unusedSimpArgs false
open Go.ChangeShapes Go.WideShapes Go.Deep
theorem evs_cap {H : Type} {enc : TypeId × Value → H} {w : World} {base : Nat} {spare : Nat → Bool} {held : Bool} {fuel : Nat} {A : Option Addr} {n c : Nat} {y : DataW H × List MemPlace} (h : DataW.trod enc Try.prog w base spare held fuel 49 [.slice A n c] = some y) : n ≤ c := by
  rcases open_slice Try.underlying49 h with ⟨hcs, _⟩ | ⟨x, n2, c2, m, k, D, Pl, hcs, _, hl, hm, hmm, rfl, hi⟩
  · simp at hcs; omega
  · simp at hcs; omega
end Go.Proofs.Ytlpjhnecihhkfaa
