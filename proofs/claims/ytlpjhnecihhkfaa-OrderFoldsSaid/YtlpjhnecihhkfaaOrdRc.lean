/-
  The reference's Check: what it looks at. (Written by wip/tools/gen_rcheck.py.)
-/
import Derived.Test.YtlpjhnecihhkfaaOrdVa
import Derived.Test.YtlpjhnecihhkfaaOrdRa
namespace Go.Proofs.Ytlpjhnecihhkfaa
open Go.RowKit
set_option linter.unusedVariables false
set_option linter.unusedSimpArgs false
def lowAt (t : Nat) : Int := [0, 1, 1, 0, 0, 0, 0, 0, 0, 0, 0].getD t 0
def highAt (t : Nat) : Int := [0, 10, 1099511627776, 65535, 10000, 100000000, 3, 5000, 0, 1099511627776, 0].getD t 0
def numAt (e : Ev) (t : Nat) : Int := [0, e.kind, e.order, e.item, e.qty, e.price, e.cur, e.tax, 0, e.stamp, 0].getD t 0
def tagOk (h : Nat) (e : Ev) (t : Nat) : Prop := ¬ (numAt e t < lowAt t) ∧ ¬ (highAt t < numAt e t) ∧ (t ≤ h ∨ numAt e t = 0)
theorem low_cell {t : Nat} (h : t < 11) : (#[.int .i64 0, .int .i64 1, .int .i64 1, .int .i64 0, .int .i64 0, .int .i64 0, .int .i64 0, .int .i64 0, .int .i64 0, .int .i64 0, .int .i64 0] : Array Value)[t]? = some (.int .i64 (lowAt t)) := (match t, h with | 0, _ => rfl | 1, _ => rfl | 2, _ => rfl | 3, _ => rfl | 4, _ => rfl | 5, _ => rfl | 6, _ => rfl | 7, _ => rfl | 8, _ => rfl | 9, _ => rfl | 10, _ => rfl)
theorem high_cell {t : Nat} (h : t < 11) : (#[.int .i64 0, .int .i64 10, .int .i64 1099511627776, .int .i64 65535, .int .i64 10000, .int .i64 100000000, .int .i64 3, .int .i64 5000, .int .i64 0, .int .i64 1099511627776, .int .i64 0] : Array Value)[t]? = some (.int .i64 (highAt t)) := (match t, h with | 0, _ => rfl | 1, _ => rfl | 2, _ => rfl | 3, _ => rfl | 4, _ => rfl | 5, _ => rfl | 6, _ => rfl | 7, _ => rfl | 8, _ => rfl | 9, _ => rfl | 10, _ => rfl)
theorem num_cell (e : Ev) {t : Nat} (h : t < 11) : (#[.int .i64 0, .int .i64 e.kind, .int .i64 e.order, .int .i64 e.item, .int .i64 e.qty, .int .i64 e.price, .int .i64 e.cur, .int .i64 e.tax, .int .i64 0, .int .i64 e.stamp, .int .i64 0] : Array Value)[t]? = some (.int .i64 (numAt e t)) := (match t, h with | 0, _ => rfl | 1, _ => rfl | 2, _ => rfl | 3, _ => rfl | 4, _ => rfl | 5, _ => rfl | 6, _ => rfl | 7, _ => rfl | 8, _ => rfl | 9, _ => rfl | 10, _ => rfl)
/-- What the reference's Check asks of a version that has h tags and whose last kind is k. -/
structure ROk (h : Nat) (k : Int) (bare : Bool) (e : Ev) : Prop where
  kind : 1 ≤ e.kind ∧ e.kind ≤ k
  who : e.who.size ≤ 16
  note : e.note.size ≤ 120
  tags : ∀ t, 1 ≤ t → t ≤ 10 → tagOk h e t
  bare : bare = true → e.note.size = 0
  plain : plainB e.who = true
def RPost (w : World) (h : Nat) (k : Int) (bare : Bool) (e : Ev) (e' : Ending) (w' : World) : Prop := ∃ r : Int, e' = .returned (.int .i64 r) ∧ (r = 0 ↔ ROk h k bare e) ∧ Ext w w'
theorem rok5 {e : Ev} : ROk 10 10 false e ↔ check5 e = 0 := by
  rw [event_iff]
  constructor
  · intro h
    have t2 := h.tags 2 (by omega) (by omega)
    have t3 := h.tags 3 (by omega) (by omega)
    have t4 := h.tags 4 (by omega) (by omega)
    have t5 := h.tags 5 (by omega) (by omega)
    have t6 := h.tags 6 (by omega) (by omega)
    have t7 := h.tags 7 (by omega) (by omega)
    have t9 := h.tags 9 (by omega) (by omega)
    simp [tagOk, numAt, lowAt, highAt] at t2 t3 t4 t5 t6 t7 t9
    exact ⟨h.kind, by omega, by omega, by omega, by omega, by omega, by omega, by simp only [namedB, and_t, decide_eq_true_eq]; exact ⟨h.who, h.plain⟩, by omega, h.note⟩
  · intro h
    obtain ⟨h1, h2, h3, h4, h5, h6, h7, h8, h9, h10⟩ := h
    simp only [namedB, and_t, decide_eq_true_eq] at h8
    refine ⟨h1, h8.1, h10, fun t a b => ?_, (fun hc => by cases hc), h8.2⟩
    obtain rfl | rfl | rfl | rfl | rfl | rfl | rfl | rfl | rfl | rfl : t = 1 ∨ t = 2 ∨ t = 3 ∨ t = 4 ∨ t = 5 ∨ t = 6 ∨ t = 7 ∨ t = 8 ∨ t = 9 ∨ t = 10 := by omega
    all_goals (simp [tagOk, numAt, lowAt, highAt]; try omega)
theorem rok4 {who : ByteArray} : ROk 8 9 true ⟨1, 1, 0, 0, 0, 0, 0, who, 0, ⟨#[]⟩⟩ ↔ namedB who = true := by
  simp only [namedB, and_t, decide_eq_true_eq]
  constructor
  · intro h
    exact ⟨h.who, h.plain⟩
  · intro h
    refine ⟨⟨by show (1 : Int) ≤ 1; omega, by show (1 : Int) ≤ 9; omega⟩, h.1, Nat.zero_le _, fun t a b => ?_, fun _ => rfl, h.2⟩
    obtain rfl | rfl | rfl | rfl | rfl | rfl | rfl | rfl | rfl | rfl : t = 1 ∨ t = 2 ∨ t = 3 ∨ t = 4 ∨ t = 5 ∨ t = 6 ∨ t = 7 ∨ t = 8 ∨ t = 9 ∨ t = 10 := by omega
    all_goals simp [tagOk, numAt, lowAt, highAt]
theorem nums_any (e : Ev) (w : World) : Calls Try.prog 38 #[.agg (evcells e)] w fun e' w' => ∃ g, e' = .returned (.slice (some ⟨g, 0, none⟩) 11 11) ∧ Ext w w' ∧ Blk w' g 3 #[.int .i64 0, .int .i64 e.kind, .int .i64 e.order, .int .i64 e.item, .int .i64 e.qty, .int .i64 e.price, .int .i64 e.cur, .int .i64 e.tax, .int .i64 0, .int .i64 e.stamp, .int .i64 0] := by
  unfold evcells
  go_enter Try.func38, Try.ntmps38
  go_wp2_with fail
  go_ret
  exact ⟨_, rfl, exA, BlkN (by simp)⟩
theorem last4 (w : World) : Calls Try.prog 37 #[.int .i64 4] w fun e' w' => e' = .returned (.int .i64 9) ∧ Ext w w' := by
  go_enter Try.func37, Try.ntmps37
  go_wp2_with fail
  go_ret
  exact ⟨rfl, exA⟩
theorem has4 (w : World) : Calls Try.prog 39 #[.int .i64 4] w fun e' w' => e' = .returned (.int .i64 8) ∧ Ext w w' := by
  go_enter Try.func39, Try.ntmps39
  go_wp2_with fail
  go_ret
  exact ⟨rfl, exA⟩
theorem last5 (w : World) : Calls Try.prog 37 #[.int .i64 5] w fun e' w' => e' = .returned (.int .i64 10) ∧ Ext w w' := by
  go_enter Try.func37, Try.ntmps37
  go_wp2_with fail
  go_ret
  exact ⟨rfl, exA⟩
theorem has5 (w : World) : Calls Try.prog 39 #[.int .i64 5] w fun e' w' => e' = .returned (.int .i64 10) ∧ Ext w w' := by
  go_enter Try.func39, Try.ntmps39
  go_wp2_with fail
  go_ret
  exact ⟨rfl, exA⟩
def CkR (W : World) (h : Nat) (e : Ev) (c8 : Value) (wr : World) : Prop := ∃ t : Nat, c8 = .int .i64 (t : Nat) ∧ 1 ≤ t ∧ t ≤ 11 ∧ (∀ j, 1 ≤ j → j < t → tagOk h e j) ∧ Ext W wr
end Go.Proofs.Ytlpjhnecihhkfaa
