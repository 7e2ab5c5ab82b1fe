/-
  The walks of order.Due, allows.
-/
import Derived.Test.YtlpjhnecihhkfaaOrdVa
import Derived.Test.YtlpjhnecihhkfaaOrdB
namespace Go.Proofs.Ytlpjhnecihhkfaa
open Go.RowKit
set_option linter.unusedVariables false
set_option linter.unusedSimpArgs false
theorem valid_tax {s : St} (h : validB s = true) : (∀ l ∈ s.lines, lnB l = true) ∧ s.lines.length ≤ 16 ∧ 0 ≤ s.tax ∧ s.tax ≤ 5000 := by
  have hv := valid_iff.1 h
  exact ⟨fun l hl => (rises_mem hv.rises l hl).1, hv.len, hv.tax.1, hv.tax.2⟩
set_option maxRecDepth 100000 in
set_option maxHeartbeats 2000000 in
theorem pdue_any (s : St) (A : Option Addr) (c : Nat) (w : World) (hr : LsRd w A s.lines) (hn : s.lines.length ≤ 4611686018427387904) (hw : s.who.size ≤ 4611686018427387904) :
    Calls Try.prog 21 #[.agg (stcells s A c)] w fun e w' => e = .returned (.tuple #[.int .i64 (if validB s then due s else 0), .bool (validB s)]) ∧ Ext w w' := by
  have K1 := Lib.hid fun W (h : LsRd W A s.lines) => valid_any s A c W h hn hw
  have K2 : Hid (validB s = true → ∀ W, LsRd W A s.lines → Calls Try.prog 40 #[.agg (stcells s A c)] W fun e w2 => e = .returned (.int .i64 (due s)) ∧ Ext W w2) := Lib.hid fun hb W h => by
    have hv := valid_tax hb
    exact due_any s A c W h hv.1 hv.2.1 hv.2.2
  generalize validB s = B at *
  generalize due s = D at *
  obtain ⟨order, status, prior, cur, tax, ls, paid, refunded, events, refused, stamp, who⟩ := s
  unfold stcells at *
  dsimp only at *
  generalize ls.length = n at *
  cases B with
  | false =>
    clear K2
    go_enter Try.func21, Try.ntmps21
    go_wp2_with (go_at_call 22; (with_reducible refine (K1.out _ (hr.ext (by repeat (first | with_reducible exact Below.refl _ _ | with_reducible assumption | with_reducible refine ExtD ?_ | with_reducible refine ExtDN ?_ | with_reducible refine ExtA ?_ | (with_reducible refine ExtR ?_ ?_; (first | omega | (dsimp only; omega) | (simp; done) | (simp; omega))) | (with_reducible refine ExtS ?_ ?_; (first | omega | (dsimp only; omega) | (simp; done) | (simp; omega))) | with_reducible refine Ext.tr ?_ (by with_reducible assumption))))).mono ?_); rintro e w1 ⟨rfl, hx1⟩)
    go_ret2
    exact ⟨rfl, (by repeat (first | with_reducible exact Below.refl _ _ | with_reducible assumption | with_reducible refine ExtD ?_ | with_reducible refine ExtDN ?_ | with_reducible refine ExtA ?_ | (with_reducible refine ExtR ?_ ?_; (first | omega | (dsimp only; omega) | (simp; done) | (simp; omega))) | (with_reducible refine ExtS ?_ ?_; (first | omega | (dsimp only; omega) | (simp; done) | (simp; omega))) | with_reducible refine Ext.tr ?_ (by with_reducible assumption)))⟩
  | true =>
    have KD := Lib.hid (K2.out rfl)
    clear K2
    have HS := Lib.hid (fun w' (h : Ext (w.alloc (.cells #[.int .i64 order, .int .i64 status, .int .i64 prior, .int .i64 cur, .int .i64 tax, .slice A n c, .int .i64 paid, .int .i64 refunded, .int .i64 events, .int .i64 refused, .int .i64 stamp, .string who] 25)) w') => (⟨h, (Ext.blk h (BlkN rfl)).cell 0, (Ext.blk h (BlkN rfl)).cell 1, (Ext.blk h (BlkN rfl)).cell 2, (Ext.blk h (BlkN rfl)).cell 3, (Ext.blk h (BlkN rfl)).cell 4, (Ext.blk h (BlkN rfl)).cell 5, (Ext.blk h (BlkN rfl)).cell 6, (Ext.blk h (BlkN rfl)).cell 7, (Ext.blk h (BlkN rfl)).cell 8, (Ext.blk h (BlkN rfl)).cell 9, (Ext.blk h (BlkN rfl)).cell 10, (Ext.blk h (BlkN rfl)).cell 11⟩ : (fun w' : World => Ext (w.alloc (.cells #[.int .i64 order, .int .i64 status, .int .i64 prior, .int .i64 cur, .int .i64 tax, .slice A n c, .int .i64 paid, .int .i64 refunded, .int .i64 events, .int .i64 refused, .int .i64 stamp, .string who] 25)) w' ∧ w'.cell? ⟨w.heap.size, 0, none⟩ = some (.int .i64 order) ∧ w'.cell? ⟨w.heap.size, 1, none⟩ = some (.int .i64 status) ∧ w'.cell? ⟨w.heap.size, 2, none⟩ = some (.int .i64 prior) ∧ w'.cell? ⟨w.heap.size, 3, none⟩ = some (.int .i64 cur) ∧ w'.cell? ⟨w.heap.size, 4, none⟩ = some (.int .i64 tax) ∧ w'.cell? ⟨w.heap.size, 5, none⟩ = some (.slice A n c) ∧ w'.cell? ⟨w.heap.size, 6, none⟩ = some (.int .i64 paid) ∧ w'.cell? ⟨w.heap.size, 7, none⟩ = some (.int .i64 refunded) ∧ w'.cell? ⟨w.heap.size, 8, none⟩ = some (.int .i64 events) ∧ w'.cell? ⟨w.heap.size, 9, none⟩ = some (.int .i64 refused) ∧ w'.cell? ⟨w.heap.size, 10, none⟩ = some (.int .i64 stamp) ∧ w'.cell? ⟨w.heap.size, 11, none⟩ = some (.string who)) w'))
    go_enter Try.func21, Try.ntmps21
    go_wp2_with (first
      | (go_at_call 22; (with_reducible refine (K1.out _ (hr.ext (by repeat (first | with_reducible exact Below.refl _ _ | with_reducible assumption | with_reducible refine ExtD ?_ | with_reducible refine ExtDN ?_ | with_reducible refine ExtA ?_ | (with_reducible refine ExtR ?_ ?_; (first | omega | (dsimp only; omega) | (simp; done) | (simp; omega))) | (with_reducible refine ExtS ?_ ?_; (first | omega | (dsimp only; omega) | (simp; done) | (simp; omega))) | with_reducible refine Ext.tr ?_ (by with_reducible assumption))))).mono ?_); rintro e w1 ⟨rfl, hx1⟩; have h3 := HS.out w1 (by repeat (first | with_reducible exact Below.refl _ _ | with_reducible assumption | with_reducible refine ExtD ?_ | with_reducible refine ExtDN ?_ | with_reducible refine ExtA ?_ | (with_reducible refine ExtR ?_ ?_; (first | omega | (dsimp only; omega) | (simp; done) | (simp; omega))) | (with_reducible refine ExtS ?_ ?_; (first | omega | (dsimp only; omega) | (simp; done) | (simp; omega))) | with_reducible refine Ext.tr ?_ (by with_reducible assumption))); go_split_ands)
      | (go_at_call 40; (with_reducible refine (KD.out _ (hr.ext (by repeat (first | with_reducible exact Below.refl _ _ | with_reducible assumption | with_reducible refine ExtD ?_ | with_reducible refine ExtDN ?_ | with_reducible refine ExtA ?_ | (with_reducible refine ExtR ?_ ?_; (first | omega | (dsimp only; omega) | (simp; done) | (simp; omega))) | (with_reducible refine ExtS ?_ ?_; (first | omega | (dsimp only; omega) | (simp; done) | (simp; omega))) | with_reducible refine Ext.tr ?_ (by with_reducible assumption))))).mono ?_); rintro e w2 ⟨rfl, hx2⟩))
    go_ret2
    exact ⟨rfl, (by repeat (first | with_reducible exact Below.refl _ _ | with_reducible assumption | with_reducible refine ExtD ?_ | with_reducible refine ExtDN ?_ | with_reducible refine ExtA ?_ | (with_reducible refine ExtR ?_ ?_; (first | omega | (dsimp only; omega) | (simp; done) | (simp; omega))) | (with_reducible refine ExtS ?_ ?_; (first | omega | (dsimp only; omega) | (simp; done) | (simp; omega))) | with_reducible refine Ext.tr ?_ (by with_reducible assumption)))⟩
def allowsB (s : St) (k : Int) : Bool := decide (k ≠ 1) && useB s k
set_option maxRecDepth 100000 in
set_option maxHeartbeats 4000000 in
theorem allows_any (s : St) (k : Int) (A : Option Addr) (c : Nat) (w : World) (hr : LsRd w A s.lines) (hn : s.lines.length ≤ 4611686018427387904) :
    Calls Try.prog 30 #[.agg (stcells s A c), .int .i64 k] w fun e w' => e = .returned (.bool (allowsB s k)) ∧ Ext w w' := by
  have K1 := Lib.hid fun W (h : LsRd W A s.lines) => shipped_any s A c W h hn
  have Hv : Hid (allowsB s k = (decide (k ≠ 1) && useB s k)) := Lib.hid rfl
  unfold useB at Hv
  generalize noneB s.lines = N at *
  generalize allB s.lines = AL at *
  generalize allowsB s k = R at *
  obtain ⟨order, status, prior, cur, tax, ls, paid, refunded, events, refused, stamp, who⟩ := s
  unfold stcells at *
  dsimp only at *
  generalize ls.length = n at *
  have HS := Lib.hid (fun w' (h : Ext (w.alloc (.cells #[.int .i64 order, .int .i64 status, .int .i64 prior, .int .i64 cur, .int .i64 tax, .slice A n c, .int .i64 paid, .int .i64 refunded, .int .i64 events, .int .i64 refused, .int .i64 stamp, .string who] 25)) w') => (⟨h, (Ext.blk h (BlkN rfl)).cell 0, (Ext.blk h (BlkN rfl)).cell 1, (Ext.blk h (BlkN rfl)).cell 2, (Ext.blk h (BlkN rfl)).cell 3, (Ext.blk h (BlkN rfl)).cell 4, (Ext.blk h (BlkN rfl)).cell 5, (Ext.blk h (BlkN rfl)).cell 6, (Ext.blk h (BlkN rfl)).cell 7, (Ext.blk h (BlkN rfl)).cell 8, (Ext.blk h (BlkN rfl)).cell 9, (Ext.blk h (BlkN rfl)).cell 10, (Ext.blk h (BlkN rfl)).cell 11⟩ : (fun w' : World => Ext (w.alloc (.cells #[.int .i64 order, .int .i64 status, .int .i64 prior, .int .i64 cur, .int .i64 tax, .slice A n c, .int .i64 paid, .int .i64 refunded, .int .i64 events, .int .i64 refused, .int .i64 stamp, .string who] 25)) w' ∧ w'.cell? ⟨w.heap.size, 0, none⟩ = some (.int .i64 order) ∧ w'.cell? ⟨w.heap.size, 1, none⟩ = some (.int .i64 status) ∧ w'.cell? ⟨w.heap.size, 2, none⟩ = some (.int .i64 prior) ∧ w'.cell? ⟨w.heap.size, 3, none⟩ = some (.int .i64 cur) ∧ w'.cell? ⟨w.heap.size, 4, none⟩ = some (.int .i64 tax) ∧ w'.cell? ⟨w.heap.size, 5, none⟩ = some (.slice A n c) ∧ w'.cell? ⟨w.heap.size, 6, none⟩ = some (.int .i64 paid) ∧ w'.cell? ⟨w.heap.size, 7, none⟩ = some (.int .i64 refunded) ∧ w'.cell? ⟨w.heap.size, 8, none⟩ = some (.int .i64 events) ∧ w'.cell? ⟨w.heap.size, 9, none⟩ = some (.int .i64 refused) ∧ w'.cell? ⟨w.heap.size, 10, none⟩ = some (.int .i64 stamp) ∧ w'.cell? ⟨w.heap.size, 11, none⟩ = some (.string who)) w'))
  go_enter Try.func30, Try.ntmps30
  go_wp2_with (go_at_call 42; (with_reducible refine (K1.out _ (hr.ext (by repeat (first | with_reducible exact Below.refl _ _ | with_reducible assumption | with_reducible refine ExtD ?_ | with_reducible refine ExtDN ?_ | with_reducible refine ExtA ?_ | (with_reducible refine ExtR ?_ ?_; (first | omega | (dsimp only; omega) | (simp; done) | (simp; omega))) | (with_reducible refine ExtS ?_ ?_; (first | omega | (dsimp only; omega) | (simp; done) | (simp; omega))) | with_reducible refine Ext.tr ?_ (by with_reducible assumption))))).mono ?_); rintro e w1 ⟨rfl, hx1⟩; have h3 := HS.out w1 (by repeat (first | with_reducible exact Below.refl _ _ | with_reducible assumption | with_reducible refine ExtD ?_ | with_reducible refine ExtDN ?_ | with_reducible refine ExtA ?_ | (with_reducible refine ExtR ?_ ?_; (first | omega | (dsimp only; omega) | (simp; done) | (simp; omega))) | (with_reducible refine ExtS ?_ ?_; (first | omega | (dsimp only; omega) | (simp; done) | (simp; omega))) | with_reducible refine Ext.tr ?_ (by with_reducible assumption))); go_split_ands)
  all_goals
    go_ret
    refine ⟨?_, (by repeat (first | with_reducible exact Below.refl _ _ | with_reducible assumption | with_reducible refine ExtD ?_ | with_reducible refine ExtDN ?_ | with_reducible refine ExtA ?_ | (with_reducible refine ExtR ?_ ?_; (first | omega | (dsimp only; omega) | (simp; done) | (simp; omega))) | (with_reducible refine ExtS ?_ ?_; (first | omega | (dsimp only; omega) | (simp; done) | (simp; omega))) | with_reducible refine Ext.tr ?_ (by with_reducible assumption)))⟩
    rw [Hv.out]
    clear K1 HS
    first | (simp only [beq_iff_eq, beq_eq_false_iff_ne, ne_eq] at *) | skip
    first | rfl | (simp [*, beq_dec]; done) | (simp [*, beq_dec]; omega) | (simp [*, beq_dec]; rw [Bool.eq_iff_iff]; simp; omega)
end Go.Proofs.Ytlpjhnecihhkfaa
