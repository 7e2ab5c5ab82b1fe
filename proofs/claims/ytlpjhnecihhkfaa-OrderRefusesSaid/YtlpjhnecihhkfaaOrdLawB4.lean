/-
  OrderRefuses, whole.
-/
import Derived.Test.YtlpjhnecihhkfaaOrdLawB2
import Derived.Test.YtlpjhnecihhkfaaOrdLawB3
namespace Go.Proofs.Ytlpjhnecihhkfaa
open Go.RowKit
set_option linter.unusedVariables false
set_option linter.unusedSimpArgs false
theorem orderRefuses_walk (s : St) (A : Option Addr) (c : Nat) (e : Ev) (w : World) (hr : LsRd w A s.lines) (hs : StWf s) (he : EvWf e) :
    Calls Try.prog 11 #[.agg (stcells s A c), .agg (evcells e)] w fun e w' => e = .returned (.bool true) ∧ Ext w w' := by
  by_cases h1 : judge s e = 1 ∨ judge s e = 2
  · exact refuses_a s A c e w hr hs he h1
  by_cases h0 : judge s e = 0
  · exact refuses_c s A c e w hr hs he h0
  · exact refuses_b s A c e w hr hs he (by omega)
end Go.Proofs.Ytlpjhnecihhkfaa
