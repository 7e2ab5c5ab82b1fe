/-
  The walk of order.Valid.
-/
import Derived.Test.YtlpjhnecihhkfaaOrdV
import Derived.Deep.RegionHeld3
namespace Go.Proofs.Ytlpjhnecihhkfaa
open Go.RowKit
set_option linter.unusedVariables false
set_option linter.unusedSimpArgs false
theorem beq_dec (x y : Int) : (x == y) = decide (x = y) := by rw [Bool.eq_iff_iff]; simp
theorem who_empty (s : ByteArray) : s.toList.isEmpty = decide (s.size = 0) := by
  rw [ByteArray.toList_eq]
  have h : s.size = s.data.toList.length := by simp
  rw [h]
  cases s.data.toList <;> simp
set_option maxRecDepth 100000 in
set_option maxHeartbeats 4000000 in
theorem valid_any (s : St) (A : Option Addr) (c : Nat) (w : World) (hr : LsRd w A s.lines) (hn : s.lines.length ≤ 4611686018427387904) (hw : s.who.size ≤ 4611686018427387904) :
    Calls Try.prog 22 #[.agg (stcells s A c)] w fun e w' => e = .returned (.bool (validB s)) ∧ Ext w w' := by
  have K1 := Lib.hid fun W (h : LsRd W A s.lines) => bounded_any s A c W h hn hw
  have K2 : Hid (boundedB s = true → ∀ W, LsRd W A s.lines → Calls Try.prog 40 #[.agg (stcells s A c)] W fun e w2 => e = .returned (.int .i64 (due s)) ∧ Ext W w2) := Lib.hid fun hb W h => by
    simp only [boundedB, and_t, linedB, wi_iff, decide_eq_true_eq] at hb
    exact due_any s A c W h (fun l hl => (rises_mem hb.1.1.1.1.1.2.2 l hl).1) hb.1.1.1.1.1.2.1 hb.1.1.1.1.1.1.2
  have K3 := Lib.hid fun W (h : LsRd W A s.lines) => shipped_any s A c W h hn
  have Hv : Hid (validB s = (boundedB s && decide (s.paid ≤ due s) && priorB s && standsB s (standsAt s))) := Lib.hid rfl
  unfold priorB standsB standsAt fullB at Hv
  have hl0 : (s.lines = []) = (s.lines.length = 0) := by simp
  simp only [hl0] at Hv
  generalize boundedB s = B at *
  generalize due s = D at *
  generalize noneB s.lines = N at *
  generalize allB s.lines = AL at *
  generalize validB s = R at *
  clear hl0
  obtain ⟨order, status, prior, cur, tax, ls, paid, refunded, events, refused, stamp, who⟩ := s
  unfold stcells at *
  dsimp only at *
  generalize ls.length = n at *
  have HS := Lib.hid (fun w' (h : Ext (w.alloc (.cells #[.int .i64 order, .int .i64 status, .int .i64 prior, .int .i64 cur, .int .i64 tax, .slice A n c, .int .i64 paid, .int .i64 refunded, .int .i64 events, .int .i64 refused, .int .i64 stamp, .string who] 25)) w') => (⟨h, (Ext.blk h (BlkN rfl)).cell 0, (Ext.blk h (BlkN rfl)).cell 1, (Ext.blk h (BlkN rfl)).cell 2, (Ext.blk h (BlkN rfl)).cell 3, (Ext.blk h (BlkN rfl)).cell 4, (Ext.blk h (BlkN rfl)).cell 5, (Ext.blk h (BlkN rfl)).cell 6, (Ext.blk h (BlkN rfl)).cell 7, (Ext.blk h (BlkN rfl)).cell 8, (Ext.blk h (BlkN rfl)).cell 9, (Ext.blk h (BlkN rfl)).cell 10, (Ext.blk h (BlkN rfl)).cell 11⟩ : (fun w' : World => Ext (w.alloc (.cells #[.int .i64 order, .int .i64 status, .int .i64 prior, .int .i64 cur, .int .i64 tax, .slice A n c, .int .i64 paid, .int .i64 refunded, .int .i64 events, .int .i64 refused, .int .i64 stamp, .string who] 25)) w' ∧ w'.cell? ⟨w.heap.size, 0, none⟩ = some (.int .i64 order) ∧ w'.cell? ⟨w.heap.size, 1, none⟩ = some (.int .i64 status) ∧ w'.cell? ⟨w.heap.size, 2, none⟩ = some (.int .i64 prior) ∧ w'.cell? ⟨w.heap.size, 3, none⟩ = some (.int .i64 cur) ∧ w'.cell? ⟨w.heap.size, 4, none⟩ = some (.int .i64 tax) ∧ w'.cell? ⟨w.heap.size, 5, none⟩ = some (.slice A n c) ∧ w'.cell? ⟨w.heap.size, 6, none⟩ = some (.int .i64 paid) ∧ w'.cell? ⟨w.heap.size, 7, none⟩ = some (.int .i64 refunded) ∧ w'.cell? ⟨w.heap.size, 8, none⟩ = some (.int .i64 events) ∧ w'.cell? ⟨w.heap.size, 9, none⟩ = some (.int .i64 refused) ∧ w'.cell? ⟨w.heap.size, 10, none⟩ = some (.int .i64 stamp) ∧ w'.cell? ⟨w.heap.size, 11, none⟩ = some (.string who)) w'))
  cases B with
  | false =>
    go_enter Try.func22, Try.ntmps22
    go_wp2_with fail
    first | (go_region_with (first
      | (go_at_call 41; (with_reducible refine (K1.out _ (hr.ext exA)).mono ?_); rintro e w1 ⟨rfl, hx1⟩))) | fail
    all_goals
      go_wp2_with fail
      go_ret
      exact ⟨by rw [Hv.out]; rfl, exA⟩
  | true =>
    have KD := Lib.hid (K2.out rfl)
    clear K2
    by_cases h2 : status = 2
    · have ts : (status == 2) = true := by simp; exact h2
      have Hs := Lib.hid h2
      clear h2
      by_cases h1 : prior = 1
      · have t1 : (prior != 1) = false := by simp; exact h1
        have u0 : (prior == 0) = false := by simp; omega
        have u1 : (prior == 1) = true := by simp; exact h1
        have Hp := Lib.hid h1
        clear h1
        go_enter Try.func22, Try.ntmps22
        go_wp2_with fail
        first | (go_region_held3 (fun w' : World => Ext (w.alloc (.cells #[.int .i64 order, .int .i64 status, .int .i64 prior, .int .i64 cur, .int .i64 tax, .slice A n c, .int .i64 paid, .int .i64 refunded, .int .i64 events, .int .i64 refused, .int .i64 stamp, .string who] 25)) w' ∧ w'.cell? ⟨w.heap.size, 0, none⟩ = some (.int .i64 order) ∧ w'.cell? ⟨w.heap.size, 1, none⟩ = some (.int .i64 status) ∧ w'.cell? ⟨w.heap.size, 2, none⟩ = some (.int .i64 prior) ∧ w'.cell? ⟨w.heap.size, 3, none⟩ = some (.int .i64 cur) ∧ w'.cell? ⟨w.heap.size, 4, none⟩ = some (.int .i64 tax) ∧ w'.cell? ⟨w.heap.size, 5, none⟩ = some (.slice A n c) ∧ w'.cell? ⟨w.heap.size, 6, none⟩ = some (.int .i64 paid) ∧ w'.cell? ⟨w.heap.size, 7, none⟩ = some (.int .i64 refunded) ∧ w'.cell? ⟨w.heap.size, 8, none⟩ = some (.int .i64 events) ∧ w'.cell? ⟨w.heap.size, 9, none⟩ = some (.int .i64 refused) ∧ w'.cell? ⟨w.heap.size, 10, none⟩ = some (.int .i64 stamp) ∧ w'.cell? ⟨w.heap.size, 11, none⟩ = some (.string who))
          (exact HS.out _ exA)
          (first
            | (go_at_call 41; (with_reducible refine (K1.out _ (hr.ext exA)).mono ?_); rintro e w1 ⟨rfl, hx1⟩)
            | (go_at_call 40; (with_reducible refine (KD.out _ (hr.ext exA)).mono ?_); rintro e w2 ⟨rfl, hx2⟩))) | fail
        go_split_ands
        go_wp2_with (go_at_call 42; (with_reducible refine (K3.out _ (hr.ext exA)).mono ?_); rintro e w3 ⟨rfl, hx3⟩; have h3 := HS.out w3 exA; go_split_ands)
        all_goals try (go_ret; refine ⟨?_, exA⟩; have hs := Hs.out; have hp := Hp.out; (first | (have hf := Hf.out) | skip); (first | (have h0 := g0.out) | skip); rw [Hv.out]; clear K1 K3 KD HS; (first | (simp only [beq_iff_eq, beq_eq_false_iff_ne, ne_eq] at *) | skip); first | rfl | (simp [*, beq_dec, who_empty]; done) | (simp [*, beq_dec, who_empty]; omega))
        by_cases hf : paid = D
        · have f1 : (paid == D) = true := by simp; exact hf
          have Hf := Lib.hid hf
          clear hf
          by_cases h0 : 0 < paid
          · have g0 := Lib.hid h0
            first | (go_region_held3 (fun w' : World => Ext (w.alloc (.cells #[.int .i64 order, .int .i64 status, .int .i64 prior, .int .i64 cur, .int .i64 tax, .slice A n c, .int .i64 paid, .int .i64 refunded, .int .i64 events, .int .i64 refused, .int .i64 stamp, .string who] 25)) w' ∧ w'.cell? ⟨w.heap.size, 0, none⟩ = some (.int .i64 order) ∧ w'.cell? ⟨w.heap.size, 1, none⟩ = some (.int .i64 status) ∧ w'.cell? ⟨w.heap.size, 2, none⟩ = some (.int .i64 prior) ∧ w'.cell? ⟨w.heap.size, 3, none⟩ = some (.int .i64 cur) ∧ w'.cell? ⟨w.heap.size, 4, none⟩ = some (.int .i64 tax) ∧ w'.cell? ⟨w.heap.size, 5, none⟩ = some (.slice A n c) ∧ w'.cell? ⟨w.heap.size, 6, none⟩ = some (.int .i64 paid) ∧ w'.cell? ⟨w.heap.size, 7, none⟩ = some (.int .i64 refunded) ∧ w'.cell? ⟨w.heap.size, 8, none⟩ = some (.int .i64 events) ∧ w'.cell? ⟨w.heap.size, 9, none⟩ = some (.int .i64 refused) ∧ w'.cell? ⟨w.heap.size, 10, none⟩ = some (.int .i64 stamp) ∧ w'.cell? ⟨w.heap.size, 11, none⟩ = some (.string who))
              (exact HS.out _ exA)
              (first
                | (go_at_call 40; (with_reducible refine (KD.out _ (hr.ext exA)).mono ?_); rintro e w4 ⟨rfl, hx4⟩))) | fail
            go_split_ands
            go_wp2_with fail
            all_goals (go_ret; refine ⟨?_, exA⟩; have hs := Hs.out; have hp := Hp.out; (first | (have hf := Hf.out) | skip); (first | (have h0 := g0.out) | skip); rw [Hv.out]; clear K1 K3 KD HS; (first | (simp only [beq_iff_eq, beq_eq_false_iff_ne, ne_eq] at *) | skip); first | rfl | (simp [*, beq_dec, who_empty]; done) | (simp [*, beq_dec, who_empty]; omega))
          · have g0 := Lib.hid h0
            first | (go_region_held3 (fun w' : World => Ext (w.alloc (.cells #[.int .i64 order, .int .i64 status, .int .i64 prior, .int .i64 cur, .int .i64 tax, .slice A n c, .int .i64 paid, .int .i64 refunded, .int .i64 events, .int .i64 refused, .int .i64 stamp, .string who] 25)) w' ∧ w'.cell? ⟨w.heap.size, 0, none⟩ = some (.int .i64 order) ∧ w'.cell? ⟨w.heap.size, 1, none⟩ = some (.int .i64 status) ∧ w'.cell? ⟨w.heap.size, 2, none⟩ = some (.int .i64 prior) ∧ w'.cell? ⟨w.heap.size, 3, none⟩ = some (.int .i64 cur) ∧ w'.cell? ⟨w.heap.size, 4, none⟩ = some (.int .i64 tax) ∧ w'.cell? ⟨w.heap.size, 5, none⟩ = some (.slice A n c) ∧ w'.cell? ⟨w.heap.size, 6, none⟩ = some (.int .i64 paid) ∧ w'.cell? ⟨w.heap.size, 7, none⟩ = some (.int .i64 refunded) ∧ w'.cell? ⟨w.heap.size, 8, none⟩ = some (.int .i64 events) ∧ w'.cell? ⟨w.heap.size, 9, none⟩ = some (.int .i64 refused) ∧ w'.cell? ⟨w.heap.size, 10, none⟩ = some (.int .i64 stamp) ∧ w'.cell? ⟨w.heap.size, 11, none⟩ = some (.string who))
              (exact HS.out _ exA)
              (first
                | (go_at_call 40; (with_reducible refine (KD.out _ (hr.ext exA)).mono ?_); rintro e w4 ⟨rfl, hx4⟩))) | fail
            go_split_ands
            go_wp2_with fail
            all_goals (go_ret; refine ⟨?_, exA⟩; have hs := Hs.out; have hp := Hp.out; (first | (have hf := Hf.out) | skip); (first | (have h0 := g0.out) | skip); rw [Hv.out]; clear K1 K3 KD HS; (first | (simp only [beq_iff_eq, beq_eq_false_iff_ne, ne_eq] at *) | skip); first | rfl | (simp [*, beq_dec, who_empty]; done) | (simp [*, beq_dec, who_empty]; omega))
        · have f1 : (paid == D) = false := by simp; exact hf
          have Hf := Lib.hid hf
          clear hf
          first | (go_region_with (first
              | (go_at_call 40; (with_reducible refine (KD.out _ (hr.ext exA)).mono ?_); rintro e w4 ⟨rfl, hx4⟩; have h4 := HS.out w4 exA; go_split_ands))) | fail
          all_goals
            go_wp2_with fail
            all_goals (go_ret; refine ⟨?_, exA⟩; have hs := Hs.out; have hp := Hp.out; (first | (have hf := Hf.out) | skip); (first | (have h0 := g0.out) | skip); rw [Hv.out]; clear K1 K3 KD HS; (first | (simp only [beq_iff_eq, beq_eq_false_iff_ne, ne_eq] at *) | skip); first | rfl | (simp [*, beq_dec, who_empty]; done) | (simp [*, beq_dec, who_empty]; omega))
      by_cases h3 : prior = 3
      · have t1 : (prior != 1) = true := by simp; omega
        have t3 : (prior != 3) = false := by simp; omega
        have u0 : (prior == 0) = false := by simp; omega
        have u1 : (prior == 1) = false := by simp; omega
        have u3 : (prior == 3) = true := by simp; omega
        have Hp := Lib.hid h3
        clear h1 h3
        go_enter Try.func22, Try.ntmps22
        go_wp2_with fail
        first | (go_region_held3 (fun w' : World => Ext (w.alloc (.cells #[.int .i64 order, .int .i64 status, .int .i64 prior, .int .i64 cur, .int .i64 tax, .slice A n c, .int .i64 paid, .int .i64 refunded, .int .i64 events, .int .i64 refused, .int .i64 stamp, .string who] 25)) w' ∧ w'.cell? ⟨w.heap.size, 0, none⟩ = some (.int .i64 order) ∧ w'.cell? ⟨w.heap.size, 1, none⟩ = some (.int .i64 status) ∧ w'.cell? ⟨w.heap.size, 2, none⟩ = some (.int .i64 prior) ∧ w'.cell? ⟨w.heap.size, 3, none⟩ = some (.int .i64 cur) ∧ w'.cell? ⟨w.heap.size, 4, none⟩ = some (.int .i64 tax) ∧ w'.cell? ⟨w.heap.size, 5, none⟩ = some (.slice A n c) ∧ w'.cell? ⟨w.heap.size, 6, none⟩ = some (.int .i64 paid) ∧ w'.cell? ⟨w.heap.size, 7, none⟩ = some (.int .i64 refunded) ∧ w'.cell? ⟨w.heap.size, 8, none⟩ = some (.int .i64 events) ∧ w'.cell? ⟨w.heap.size, 9, none⟩ = some (.int .i64 refused) ∧ w'.cell? ⟨w.heap.size, 10, none⟩ = some (.int .i64 stamp) ∧ w'.cell? ⟨w.heap.size, 11, none⟩ = some (.string who))
          (exact HS.out _ exA)
          (first
            | (go_at_call 41; (with_reducible refine (K1.out _ (hr.ext exA)).mono ?_); rintro e w1 ⟨rfl, hx1⟩)
            | (go_at_call 40; (with_reducible refine (KD.out _ (hr.ext exA)).mono ?_); rintro e w2 ⟨rfl, hx2⟩))) | fail
        go_split_ands
        go_wp2_with (go_at_call 42; (with_reducible refine (K3.out _ (hr.ext exA)).mono ?_); rintro e w3 ⟨rfl, hx3⟩; have h3 := HS.out w3 exA; go_split_ands)
        all_goals try (go_ret; refine ⟨?_, exA⟩; have hs := Hs.out; have hp := Hp.out; (first | (have hf := Hf.out) | skip); (first | (have h0 := g0.out) | skip); rw [Hv.out]; clear K1 K3 KD HS; (first | (simp only [beq_iff_eq, beq_eq_false_iff_ne, ne_eq] at *) | skip); first | rfl | (simp [*, beq_dec, who_empty]; done) | (simp [*, beq_dec, who_empty]; omega))
        by_cases hf : paid = D
        · have f1 : (paid == D) = true := by simp; exact hf
          have Hf := Lib.hid hf
          clear hf
          by_cases h0 : 0 < paid
          · have g0 := Lib.hid h0
            first | (go_region_held3 (fun w' : World => Ext (w.alloc (.cells #[.int .i64 order, .int .i64 status, .int .i64 prior, .int .i64 cur, .int .i64 tax, .slice A n c, .int .i64 paid, .int .i64 refunded, .int .i64 events, .int .i64 refused, .int .i64 stamp, .string who] 25)) w' ∧ w'.cell? ⟨w.heap.size, 0, none⟩ = some (.int .i64 order) ∧ w'.cell? ⟨w.heap.size, 1, none⟩ = some (.int .i64 status) ∧ w'.cell? ⟨w.heap.size, 2, none⟩ = some (.int .i64 prior) ∧ w'.cell? ⟨w.heap.size, 3, none⟩ = some (.int .i64 cur) ∧ w'.cell? ⟨w.heap.size, 4, none⟩ = some (.int .i64 tax) ∧ w'.cell? ⟨w.heap.size, 5, none⟩ = some (.slice A n c) ∧ w'.cell? ⟨w.heap.size, 6, none⟩ = some (.int .i64 paid) ∧ w'.cell? ⟨w.heap.size, 7, none⟩ = some (.int .i64 refunded) ∧ w'.cell? ⟨w.heap.size, 8, none⟩ = some (.int .i64 events) ∧ w'.cell? ⟨w.heap.size, 9, none⟩ = some (.int .i64 refused) ∧ w'.cell? ⟨w.heap.size, 10, none⟩ = some (.int .i64 stamp) ∧ w'.cell? ⟨w.heap.size, 11, none⟩ = some (.string who))
              (exact HS.out _ exA)
              (first
                | (go_at_call 40; (with_reducible refine (KD.out _ (hr.ext exA)).mono ?_); rintro e w4 ⟨rfl, hx4⟩))) | fail
            go_split_ands
            go_wp2_with fail
            all_goals (go_ret; refine ⟨?_, exA⟩; have hs := Hs.out; have hp := Hp.out; (first | (have hf := Hf.out) | skip); (first | (have h0 := g0.out) | skip); rw [Hv.out]; clear K1 K3 KD HS; (first | (simp only [beq_iff_eq, beq_eq_false_iff_ne, ne_eq] at *) | skip); first | rfl | (simp [*, beq_dec, who_empty]; done) | (simp [*, beq_dec, who_empty]; omega))
          · have g0 := Lib.hid h0
            first | (go_region_held3 (fun w' : World => Ext (w.alloc (.cells #[.int .i64 order, .int .i64 status, .int .i64 prior, .int .i64 cur, .int .i64 tax, .slice A n c, .int .i64 paid, .int .i64 refunded, .int .i64 events, .int .i64 refused, .int .i64 stamp, .string who] 25)) w' ∧ w'.cell? ⟨w.heap.size, 0, none⟩ = some (.int .i64 order) ∧ w'.cell? ⟨w.heap.size, 1, none⟩ = some (.int .i64 status) ∧ w'.cell? ⟨w.heap.size, 2, none⟩ = some (.int .i64 prior) ∧ w'.cell? ⟨w.heap.size, 3, none⟩ = some (.int .i64 cur) ∧ w'.cell? ⟨w.heap.size, 4, none⟩ = some (.int .i64 tax) ∧ w'.cell? ⟨w.heap.size, 5, none⟩ = some (.slice A n c) ∧ w'.cell? ⟨w.heap.size, 6, none⟩ = some (.int .i64 paid) ∧ w'.cell? ⟨w.heap.size, 7, none⟩ = some (.int .i64 refunded) ∧ w'.cell? ⟨w.heap.size, 8, none⟩ = some (.int .i64 events) ∧ w'.cell? ⟨w.heap.size, 9, none⟩ = some (.int .i64 refused) ∧ w'.cell? ⟨w.heap.size, 10, none⟩ = some (.int .i64 stamp) ∧ w'.cell? ⟨w.heap.size, 11, none⟩ = some (.string who))
              (exact HS.out _ exA)
              (first
                | (go_at_call 40; (with_reducible refine (KD.out _ (hr.ext exA)).mono ?_); rintro e w4 ⟨rfl, hx4⟩))) | fail
            go_split_ands
            go_wp2_with fail
            all_goals (go_ret; refine ⟨?_, exA⟩; have hs := Hs.out; have hp := Hp.out; (first | (have hf := Hf.out) | skip); (first | (have h0 := g0.out) | skip); rw [Hv.out]; clear K1 K3 KD HS; (first | (simp only [beq_iff_eq, beq_eq_false_iff_ne, ne_eq] at *) | skip); first | rfl | (simp [*, beq_dec, who_empty]; done) | (simp [*, beq_dec, who_empty]; omega))
        · have f1 : (paid == D) = false := by simp; exact hf
          have Hf := Lib.hid hf
          clear hf
          first | (go_region_with (first
              | (go_at_call 40; (with_reducible refine (KD.out _ (hr.ext exA)).mono ?_); rintro e w4 ⟨rfl, hx4⟩; have h4 := HS.out w4 exA; go_split_ands))) | fail
          all_goals
            go_wp2_with fail
            all_goals (go_ret; refine ⟨?_, exA⟩; have hs := Hs.out; have hp := Hp.out; (first | (have hf := Hf.out) | skip); (first | (have h0 := g0.out) | skip); rw [Hv.out]; clear K1 K3 KD HS; (first | (simp only [beq_iff_eq, beq_eq_false_iff_ne, ne_eq] at *) | skip); first | rfl | (simp [*, beq_dec, who_empty]; done) | (simp [*, beq_dec, who_empty]; omega))
      · have t1 : (prior != 1) = true := by simp; omega
        have t3 : (prior != 3) = true := by simp; omega
        have Hp := Lib.hid (And.intro h1 h3)
        clear h1 h3
        go_enter Try.func22, Try.ntmps22
        go_wp2_with fail
        first | (go_region_held3 (fun w' : World => Ext (w.alloc (.cells #[.int .i64 order, .int .i64 status, .int .i64 prior, .int .i64 cur, .int .i64 tax, .slice A n c, .int .i64 paid, .int .i64 refunded, .int .i64 events, .int .i64 refused, .int .i64 stamp, .string who] 25)) w' ∧ w'.cell? ⟨w.heap.size, 0, none⟩ = some (.int .i64 order) ∧ w'.cell? ⟨w.heap.size, 1, none⟩ = some (.int .i64 status) ∧ w'.cell? ⟨w.heap.size, 2, none⟩ = some (.int .i64 prior) ∧ w'.cell? ⟨w.heap.size, 3, none⟩ = some (.int .i64 cur) ∧ w'.cell? ⟨w.heap.size, 4, none⟩ = some (.int .i64 tax) ∧ w'.cell? ⟨w.heap.size, 5, none⟩ = some (.slice A n c) ∧ w'.cell? ⟨w.heap.size, 6, none⟩ = some (.int .i64 paid) ∧ w'.cell? ⟨w.heap.size, 7, none⟩ = some (.int .i64 refunded) ∧ w'.cell? ⟨w.heap.size, 8, none⟩ = some (.int .i64 events) ∧ w'.cell? ⟨w.heap.size, 9, none⟩ = some (.int .i64 refused) ∧ w'.cell? ⟨w.heap.size, 10, none⟩ = some (.int .i64 stamp) ∧ w'.cell? ⟨w.heap.size, 11, none⟩ = some (.string who))
          (exact HS.out _ exA)
          (first
            | (go_at_call 41; (with_reducible refine (K1.out _ (hr.ext exA)).mono ?_); rintro e w1 ⟨rfl, hx1⟩)
            | (go_at_call 40; (with_reducible refine (KD.out _ (hr.ext exA)).mono ?_); rintro e w2 ⟨rfl, hx2⟩))) | fail
        go_split_ands
        go_wp2_with (go_at_call 42; (with_reducible refine (K3.out _ (hr.ext exA)).mono ?_); rintro e w3 ⟨rfl, hx3⟩; have h3 := HS.out w3 exA; go_split_ands)
        all_goals try (go_ret; refine ⟨?_, exA⟩; have hs := Hs.out; have hp := Hp.out; (first | (have hf := Hf.out) | skip); (first | (have h0 := g0.out) | skip); rw [Hv.out]; clear K1 K3 KD HS; (first | (simp only [beq_iff_eq, beq_eq_false_iff_ne, ne_eq] at *) | skip); first | rfl | (simp [*, beq_dec, who_empty]; done) | (simp [*, beq_dec, who_empty]; omega))
    · have ts : (status == 2) = false := by simp; omega
      have Hs := Lib.hid h2
      clear h2
      by_cases h1 : prior = 0
      · have t1 : (prior != 0) = false := by simp; omega
        have Hp := Lib.hid h1
        clear h1
        go_enter Try.func22, Try.ntmps22
        go_wp2_with fail
        first | (go_region_held3 (fun w' : World => Ext (w.alloc (.cells #[.int .i64 order, .int .i64 status, .int .i64 prior, .int .i64 cur, .int .i64 tax, .slice A n c, .int .i64 paid, .int .i64 refunded, .int .i64 events, .int .i64 refused, .int .i64 stamp, .string who] 25)) w' ∧ w'.cell? ⟨w.heap.size, 0, none⟩ = some (.int .i64 order) ∧ w'.cell? ⟨w.heap.size, 1, none⟩ = some (.int .i64 status) ∧ w'.cell? ⟨w.heap.size, 2, none⟩ = some (.int .i64 prior) ∧ w'.cell? ⟨w.heap.size, 3, none⟩ = some (.int .i64 cur) ∧ w'.cell? ⟨w.heap.size, 4, none⟩ = some (.int .i64 tax) ∧ w'.cell? ⟨w.heap.size, 5, none⟩ = some (.slice A n c) ∧ w'.cell? ⟨w.heap.size, 6, none⟩ = some (.int .i64 paid) ∧ w'.cell? ⟨w.heap.size, 7, none⟩ = some (.int .i64 refunded) ∧ w'.cell? ⟨w.heap.size, 8, none⟩ = some (.int .i64 events) ∧ w'.cell? ⟨w.heap.size, 9, none⟩ = some (.int .i64 refused) ∧ w'.cell? ⟨w.heap.size, 10, none⟩ = some (.int .i64 stamp) ∧ w'.cell? ⟨w.heap.size, 11, none⟩ = some (.string who))
          (exact HS.out _ exA)
          (first
            | (go_at_call 41; (with_reducible refine (K1.out _ (hr.ext exA)).mono ?_); rintro e w1 ⟨rfl, hx1⟩)
            | (go_at_call 40; (with_reducible refine (KD.out _ (hr.ext exA)).mono ?_); rintro e w2 ⟨rfl, hx2⟩))) | fail
        go_split_ands
        go_wp2_with (go_at_call 42; (with_reducible refine (K3.out _ (hr.ext exA)).mono ?_); rintro e w3 ⟨rfl, hx3⟩; have h3 := HS.out w3 exA; go_split_ands)
        all_goals try (go_ret; refine ⟨?_, exA⟩; have hs := Hs.out; have hp := Hp.out; (first | (have hf := Hf.out) | skip); (first | (have h0 := g0.out) | skip); rw [Hv.out]; clear K1 K3 KD HS; (first | (simp only [beq_iff_eq, beq_eq_false_iff_ne, ne_eq] at *) | skip); first | rfl | (simp [*, beq_dec, who_empty]; done) | (simp [*, beq_dec, who_empty]; omega))
        by_cases hf : paid = D
        · have f1 : (paid == D) = true := by simp; exact hf
          have Hf := Lib.hid hf
          clear hf
          by_cases h0 : 0 < paid
          · have g0 := Lib.hid h0
            first | (go_region_held3 (fun w' : World => Ext (w.alloc (.cells #[.int .i64 order, .int .i64 status, .int .i64 prior, .int .i64 cur, .int .i64 tax, .slice A n c, .int .i64 paid, .int .i64 refunded, .int .i64 events, .int .i64 refused, .int .i64 stamp, .string who] 25)) w' ∧ w'.cell? ⟨w.heap.size, 0, none⟩ = some (.int .i64 order) ∧ w'.cell? ⟨w.heap.size, 1, none⟩ = some (.int .i64 status) ∧ w'.cell? ⟨w.heap.size, 2, none⟩ = some (.int .i64 prior) ∧ w'.cell? ⟨w.heap.size, 3, none⟩ = some (.int .i64 cur) ∧ w'.cell? ⟨w.heap.size, 4, none⟩ = some (.int .i64 tax) ∧ w'.cell? ⟨w.heap.size, 5, none⟩ = some (.slice A n c) ∧ w'.cell? ⟨w.heap.size, 6, none⟩ = some (.int .i64 paid) ∧ w'.cell? ⟨w.heap.size, 7, none⟩ = some (.int .i64 refunded) ∧ w'.cell? ⟨w.heap.size, 8, none⟩ = some (.int .i64 events) ∧ w'.cell? ⟨w.heap.size, 9, none⟩ = some (.int .i64 refused) ∧ w'.cell? ⟨w.heap.size, 10, none⟩ = some (.int .i64 stamp) ∧ w'.cell? ⟨w.heap.size, 11, none⟩ = some (.string who))
              (exact HS.out _ exA)
              (first
                | (go_at_call 40; (with_reducible refine (KD.out _ (hr.ext exA)).mono ?_); rintro e w4 ⟨rfl, hx4⟩))) | fail
            go_split_ands
            go_wp2_with fail
            all_goals (go_ret; refine ⟨?_, exA⟩; have hs := Hs.out; have hp := Hp.out; (first | (have hf := Hf.out) | skip); (first | (have h0 := g0.out) | skip); rw [Hv.out]; clear K1 K3 KD HS; (first | (simp only [beq_iff_eq, beq_eq_false_iff_ne, ne_eq] at *) | skip); first | rfl | (simp [*, beq_dec, who_empty]; done) | (simp [*, beq_dec, who_empty]; omega))
          · have g0 := Lib.hid h0
            first | (go_region_held3 (fun w' : World => Ext (w.alloc (.cells #[.int .i64 order, .int .i64 status, .int .i64 prior, .int .i64 cur, .int .i64 tax, .slice A n c, .int .i64 paid, .int .i64 refunded, .int .i64 events, .int .i64 refused, .int .i64 stamp, .string who] 25)) w' ∧ w'.cell? ⟨w.heap.size, 0, none⟩ = some (.int .i64 order) ∧ w'.cell? ⟨w.heap.size, 1, none⟩ = some (.int .i64 status) ∧ w'.cell? ⟨w.heap.size, 2, none⟩ = some (.int .i64 prior) ∧ w'.cell? ⟨w.heap.size, 3, none⟩ = some (.int .i64 cur) ∧ w'.cell? ⟨w.heap.size, 4, none⟩ = some (.int .i64 tax) ∧ w'.cell? ⟨w.heap.size, 5, none⟩ = some (.slice A n c) ∧ w'.cell? ⟨w.heap.size, 6, none⟩ = some (.int .i64 paid) ∧ w'.cell? ⟨w.heap.size, 7, none⟩ = some (.int .i64 refunded) ∧ w'.cell? ⟨w.heap.size, 8, none⟩ = some (.int .i64 events) ∧ w'.cell? ⟨w.heap.size, 9, none⟩ = some (.int .i64 refused) ∧ w'.cell? ⟨w.heap.size, 10, none⟩ = some (.int .i64 stamp) ∧ w'.cell? ⟨w.heap.size, 11, none⟩ = some (.string who))
              (exact HS.out _ exA)
              (first
                | (go_at_call 40; (with_reducible refine (KD.out _ (hr.ext exA)).mono ?_); rintro e w4 ⟨rfl, hx4⟩))) | fail
            go_split_ands
            go_wp2_with fail
            all_goals (go_ret; refine ⟨?_, exA⟩; have hs := Hs.out; have hp := Hp.out; (first | (have hf := Hf.out) | skip); (first | (have h0 := g0.out) | skip); rw [Hv.out]; clear K1 K3 KD HS; (first | (simp only [beq_iff_eq, beq_eq_false_iff_ne, ne_eq] at *) | skip); first | rfl | (simp [*, beq_dec, who_empty]; done) | (simp [*, beq_dec, who_empty]; omega))
        · have f1 : (paid == D) = false := by simp; exact hf
          have Hf := Lib.hid hf
          clear hf
          first | (go_region_with (first
              | (go_at_call 40; (with_reducible refine (KD.out _ (hr.ext exA)).mono ?_); rintro e w4 ⟨rfl, hx4⟩; have h4 := HS.out w4 exA; go_split_ands))) | fail
          all_goals
            go_wp2_with fail
            all_goals (go_ret; refine ⟨?_, exA⟩; have hs := Hs.out; have hp := Hp.out; (first | (have hf := Hf.out) | skip); (first | (have h0 := g0.out) | skip); rw [Hv.out]; clear K1 K3 KD HS; (first | (simp only [beq_iff_eq, beq_eq_false_iff_ne, ne_eq] at *) | skip); first | rfl | (simp [*, beq_dec, who_empty]; done) | (simp [*, beq_dec, who_empty]; omega))
      · have t1 : (prior != 0) = true := by simp; omega
        have Hp := Lib.hid h1
        clear h1
        go_enter Try.func22, Try.ntmps22
        go_wp2_with fail
        first | (go_region_held3 (fun w' : World => Ext (w.alloc (.cells #[.int .i64 order, .int .i64 status, .int .i64 prior, .int .i64 cur, .int .i64 tax, .slice A n c, .int .i64 paid, .int .i64 refunded, .int .i64 events, .int .i64 refused, .int .i64 stamp, .string who] 25)) w' ∧ w'.cell? ⟨w.heap.size, 0, none⟩ = some (.int .i64 order) ∧ w'.cell? ⟨w.heap.size, 1, none⟩ = some (.int .i64 status) ∧ w'.cell? ⟨w.heap.size, 2, none⟩ = some (.int .i64 prior) ∧ w'.cell? ⟨w.heap.size, 3, none⟩ = some (.int .i64 cur) ∧ w'.cell? ⟨w.heap.size, 4, none⟩ = some (.int .i64 tax) ∧ w'.cell? ⟨w.heap.size, 5, none⟩ = some (.slice A n c) ∧ w'.cell? ⟨w.heap.size, 6, none⟩ = some (.int .i64 paid) ∧ w'.cell? ⟨w.heap.size, 7, none⟩ = some (.int .i64 refunded) ∧ w'.cell? ⟨w.heap.size, 8, none⟩ = some (.int .i64 events) ∧ w'.cell? ⟨w.heap.size, 9, none⟩ = some (.int .i64 refused) ∧ w'.cell? ⟨w.heap.size, 10, none⟩ = some (.int .i64 stamp) ∧ w'.cell? ⟨w.heap.size, 11, none⟩ = some (.string who))
          (exact HS.out _ exA)
          (first
            | (go_at_call 41; (with_reducible refine (K1.out _ (hr.ext exA)).mono ?_); rintro e w1 ⟨rfl, hx1⟩)
            | (go_at_call 40; (with_reducible refine (KD.out _ (hr.ext exA)).mono ?_); rintro e w2 ⟨rfl, hx2⟩))) | fail
        go_split_ands
        go_wp2_with (go_at_call 42; (with_reducible refine (K3.out _ (hr.ext exA)).mono ?_); rintro e w3 ⟨rfl, hx3⟩; have h3 := HS.out w3 exA; go_split_ands)
        all_goals try (go_ret; refine ⟨?_, exA⟩; have hs := Hs.out; have hp := Hp.out; (first | (have hf := Hf.out) | skip); (first | (have h0 := g0.out) | skip); rw [Hv.out]; clear K1 K3 KD HS; (first | (simp only [beq_iff_eq, beq_eq_false_iff_ne, ne_eq] at *) | skip); first | rfl | (simp [*, beq_dec, who_empty]; done) | (simp [*, beq_dec, who_empty]; omega))
end Go.Proofs.Ytlpjhnecihhkfaa
