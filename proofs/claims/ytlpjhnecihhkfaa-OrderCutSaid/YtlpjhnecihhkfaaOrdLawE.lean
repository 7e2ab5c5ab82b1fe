/-
  The walk of OrderCut.
-/
import Derived.Test.YtlpjhnecihhkfaaOrdAf
import Derived.Test.YtlpjhnecihhkfaaOrdLawD
namespace Go.Proofs.Ytlpjhnecihhkfaa
open Go.RowKit
set_option linter.unusedVariables false
set_option linter.unusedSimpArgs false
theorem fold_app (s : St) (a b : List Ev) : fold s (a ++ b) = fold (fold s a) b := by unfold fold; rw [List.foldl_append]
theorem evCells_take (es : List Ev) (k : Nat) : evCells (es.take k) = (evCells es).take (k * 10) := by
  induction es generalizing k with
  | nil => simp [evCells]
  | cons e r ih =>
    cases k with
    | zero => simp [evCells]
    | succ k =>
      rw [List.take_succ_cons]
      show (evcells e).toList ++ evCells (r.take k) = ((evcells e).toList ++ evCells r).take ((k + 1) * 10)
      rw [ih, show (k + 1) * 10 = (evcells e).toList.length + k * 10 by simp [evcells]; omega, List.take_length_add_append]
theorem evCells_drop (es : List Ev) (k : Nat) : evCells (es.drop k) = (evCells es).drop (k * 10) := by
  induction es generalizing k with
  | nil => simp [evCells]
  | cons e r ih =>
    cases k with
    | zero => simp [evCells]
    | succ k =>
      rw [List.drop_succ_cons]
      show evCells (r.drop k) = ((evcells e).toList ++ evCells r).drop ((k + 1) * 10)
      rw [ih, show (k + 1) * 10 = (evcells e).toList.length + k * 10 by simp [evcells]; omega, List.drop_length_add_append]
/-- The head of a slice of events. -/
theorem es_head_rd {w : World} {B : Option Addr} {es : List Ev} {k : Nat} (h : EsRd w B es) (hk : k ≤ es.length) : RdN w 10 B k (evCells (es.take k)) := by
  refine ⟨by rw [evCells_len, List.length_take]; omega, fun h0 => ?_⟩
  obtain ⟨b, o, rfl, hc⟩ := h.2 (by omega)
  refine ⟨b, o, rfl, fun j u hu => hc j u ?_⟩
  rw [evCells_take, List.getElem?_take] at hu
  split at hu
  · exact hu
  · cases hu
/-- The tail of a slice of events, wherever the model lets it begin. -/
theorem es_tail_rd {w : World} {b o : Nat} {es : List Ev} {k : Nat} (h : EsRd w (some ⟨b, o, none⟩) es) (hk : k ≤ es.length) (A : Option Addr) (hA : k < es.length → A = some ⟨b, o + k * 10, none⟩) : RdN w 10 A (es.length - k) (evCells (es.drop k)) := by
  refine ⟨by rw [evCells_len, List.length_drop], fun h0 => ?_⟩
  refine ⟨b, o + k * 10, hA (by omega), fun j u hu => ?_⟩
  obtain ⟨b', o', he, hc⟩ := h.2 (by omega)
  cases he
  rw [evCells_drop, List.getElem?_drop] at hu
  rw [Nat.add_assoc]
  exact hc _ u hu
end Go.Proofs.Ytlpjhnecihhkfaa
