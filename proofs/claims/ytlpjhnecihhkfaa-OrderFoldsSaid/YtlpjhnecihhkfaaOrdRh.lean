/-
  The walk of the reference's Judge, whole.
-/
import Derived.Test.YtlpjhnecihhkfaaOrdRf
import Derived.Test.YtlpjhnecihhkfaaOrdRg
namespace Go.Proofs.Ytlpjhnecihhkfaa
open Go.RowKit
set_option linter.unusedVariables false
set_option linter.unusedSimpArgs false
set_option maxRecDepth 100000 in
set_option maxHeartbeats 8000000 in
theorem rjudge_any (s : St) (e : Ev) (A : Option Addr) (c : Nat) (w : World) (hr : LsRd w A s.lines) (hn : s.lines.length ≤ 4611686018427387904) (hw : s.who.size ≤ 4611686018427387904) (hw2 : e.who.size ≤ 4611686018427387904) (hw3 : e.note.size ≤ 4611686018427387904) :
    Calls Try.prog 25 #[.agg (stcells s A c), .agg (evcells e)] w fun e' w' => e' = .returned (.int .i64 (judge s e)) ∧ Ext w w' := by
  have K1 := Lib.hid fun W (h : LsRd W A s.lines) => rvalid_any s A c W h hn hw
  have K2 := Lib.hid fun W => rcheck5_any e W hw2 hw3
  have hj := judge_amt s e
  cases hB : validB s with
  | false =>
    have HJ : Hid (judge s e = 1) := Lib.hid (by rw [hj, if_pos (.inl hB)])
    rw [hB] at K1
    clear hj hB
    generalize judge s e = J at *
    obtain ⟨order, status, prior, cur, tax, ls, paid, refunded, events, refused, stamp, who⟩ := s
    obtain ⟨ek, eo, ei, eq, ep, ec, et, ew, es, en⟩ := e
    unfold stcells evcells at *
    dsimp only at *
    generalize ls.length = n at *
    go_enter Try.func25, Try.ntmps25
    go_wp2_with (go_at_call 16; (with_reducible refine (K1.out _ (hr.ext exA)).mono ?_); rintro e w1 ⟨rfl, hx1⟩)
    go_ret
    exact ⟨by rw [HJ.out]; rfl, exA⟩
  | true =>
  have hv := valid_iff.1 hB
  by_cases hC : check5 e = 0
  · by_cases hev : s.events = 1099511627776
    · have HJ : Hid (judge s e = 1) := Lib.hid (by rw [hj, if_pos (.inr (.inr hev))])
      rw [hB] at K1
      clear hj hB hv
      generalize judge s e = J at *
      generalize check5 e = C at *
      obtain ⟨order, status, prior, cur, tax, ls, paid, refunded, events, refused, stamp, who⟩ := s
      obtain ⟨ek, eo, ei, eq, ep, ec, et, ew, es, en⟩ := e
      unfold stcells evcells at *
      dsimp only at *
      generalize ls.length = n at *
      have hv1 : (events == 1099511627776) = true := by simp; exact hev
      clear hev
      have HS := Lib.hid (fun w' (h : Ext ((w.alloc (.cells #[.int .i64 order, .int .i64 status, .int .i64 prior, .int .i64 cur, .int .i64 tax, .slice A n c, .int .i64 paid, .int .i64 refunded, .int .i64 events, .int .i64 refused, .int .i64 stamp, .string who] 25)).alloc (.cells #[.int .i64 ek, .int .i64 eo, .int .i64 ei, .int .i64 eq, .int .i64 ep, .int .i64 ec, .int .i64 et, .string ew, .int .i64 es, .string en] 28)) w') => (⟨h, (Ext.blk h (BlkA (BlkN rfl))).cell 0, (Ext.blk h (BlkA (BlkN rfl))).cell 1, (Ext.blk h (BlkA (BlkN rfl))).cell 2, (Ext.blk h (BlkA (BlkN rfl))).cell 3, (Ext.blk h (BlkA (BlkN rfl))).cell 4, (Ext.blk h (BlkA (BlkN rfl))).cell 5, (Ext.blk h (BlkA (BlkN rfl))).cell 6, (Ext.blk h (BlkA (BlkN rfl))).cell 7, (Ext.blk h (BlkA (BlkN rfl))).cell 8, (Ext.blk h (BlkA (BlkN rfl))).cell 9, (Ext.blk h (BlkA (BlkN rfl))).cell 10, (Ext.blk h (BlkA (BlkN rfl))).cell 11, (Ext.blk h (BlkN (by simp))).cell 0, (Ext.blk h (BlkN (by simp))).cell 1, (Ext.blk h (BlkN (by simp))).cell 2, (Ext.blk h (BlkN (by simp))).cell 3, (Ext.blk h (BlkN (by simp))).cell 4, (Ext.blk h (BlkN (by simp))).cell 5, (Ext.blk h (BlkN (by simp))).cell 6, (Ext.blk h (BlkN (by simp))).cell 7, (Ext.blk h (BlkN (by simp))).cell 8, (Ext.blk h (BlkN (by simp))).cell 9⟩ : (fun w' : World => Ext ((w.alloc (.cells #[.int .i64 order, .int .i64 status, .int .i64 prior, .int .i64 cur, .int .i64 tax, .slice A n c, .int .i64 paid, .int .i64 refunded, .int .i64 events, .int .i64 refused, .int .i64 stamp, .string who] 25)).alloc (.cells #[.int .i64 ek, .int .i64 eo, .int .i64 ei, .int .i64 eq, .int .i64 ep, .int .i64 ec, .int .i64 et, .string ew, .int .i64 es, .string en] 28)) w' ∧ w'.cell? ⟨w.heap.size, 0, none⟩ = some (.int .i64 order) ∧ w'.cell? ⟨w.heap.size, 1, none⟩ = some (.int .i64 status) ∧ w'.cell? ⟨w.heap.size, 2, none⟩ = some (.int .i64 prior) ∧ w'.cell? ⟨w.heap.size, 3, none⟩ = some (.int .i64 cur) ∧ w'.cell? ⟨w.heap.size, 4, none⟩ = some (.int .i64 tax) ∧ w'.cell? ⟨w.heap.size, 5, none⟩ = some (.slice A n c) ∧ w'.cell? ⟨w.heap.size, 6, none⟩ = some (.int .i64 paid) ∧ w'.cell? ⟨w.heap.size, 7, none⟩ = some (.int .i64 refunded) ∧ w'.cell? ⟨w.heap.size, 8, none⟩ = some (.int .i64 events) ∧ w'.cell? ⟨w.heap.size, 9, none⟩ = some (.int .i64 refused) ∧ w'.cell? ⟨w.heap.size, 10, none⟩ = some (.int .i64 stamp) ∧ w'.cell? ⟨w.heap.size, 11, none⟩ = some (.string who) ∧ w'.cell? ⟨w.heap.size + 1, 0, none⟩ = some (.int .i64 ek) ∧ w'.cell? ⟨w.heap.size + 1, 1, none⟩ = some (.int .i64 eo) ∧ w'.cell? ⟨w.heap.size + 1, 2, none⟩ = some (.int .i64 ei) ∧ w'.cell? ⟨w.heap.size + 1, 3, none⟩ = some (.int .i64 eq) ∧ w'.cell? ⟨w.heap.size + 1, 4, none⟩ = some (.int .i64 ep) ∧ w'.cell? ⟨w.heap.size + 1, 5, none⟩ = some (.int .i64 ec) ∧ w'.cell? ⟨w.heap.size + 1, 6, none⟩ = some (.int .i64 et) ∧ w'.cell? ⟨w.heap.size + 1, 7, none⟩ = some (.string ew) ∧ w'.cell? ⟨w.heap.size + 1, 8, none⟩ = some (.int .i64 es) ∧ w'.cell? ⟨w.heap.size + 1, 9, none⟩ = some (.string en)) w'))
      go_enter Try.func25, Try.ntmps25
      go_wp2_with (first
        | (go_at_call 16; (with_reducible refine (K1.out _ (hr.ext exA)).mono ?_); rintro e w1 ⟨rfl, hx1⟩; have h3 := HS.out w1 exA; go_split_ands)
        | (go_at_call 19; (with_reducible refine (K2.out _).mono ?_); rintro e w2 ⟨r, rfl, hr0, hx2⟩; have r1 : (r != 0) = false := (by simp; exact hr0.2 hC); have h3 := HS.out w2 exA; go_split_ands))
      go_ret
      exact ⟨by rw [HJ.out]; rfl, exA⟩
    · have hn1 : ¬ (validB s = false ∨ check5 e ≠ 0 ∨ s.events = 1099511627776) := by simp [hB, hC, hev]
      rw [if_neg hn1] at hj
      clear hn1
      by_cases hor : e.order = s.order
      · rw [if_neg (by simp [hor])] at hj
        by_cases h1 : s.status = 0 ∧ e.kind ≠ 1
        · rw [if_pos h1] at hj
          have HJ := Lib.hid hj
          rw [hB] at K1
          clear hj hB hv
          generalize judge s e = J at *
          generalize check5 e = C at *
          obtain ⟨order, status, prior, cur, tax, ls, paid, refunded, events, refused, stamp, who⟩ := s
          obtain ⟨ek, eo, ei, eq, ep, ec, et, ew, es, en⟩ := e
          unfold stcells evcells at *
          dsimp only at *
          have o1 : (eo != order) = false := by simp; exact hor
          clear hor
          generalize ls.length = n at *
          have hv1 : (events == 1099511627776) = false := by simp; exact hev
          have s1 : (status == 0) = true := by simp; exact h1.1
          have k2 : (ek != 1) = true := by simp; exact h1.2
          clear hev h1
          have HS := Lib.hid (fun w' (h : Ext ((w.alloc (.cells #[.int .i64 order, .int .i64 status, .int .i64 prior, .int .i64 cur, .int .i64 tax, .slice A n c, .int .i64 paid, .int .i64 refunded, .int .i64 events, .int .i64 refused, .int .i64 stamp, .string who] 25)).alloc (.cells #[.int .i64 ek, .int .i64 eo, .int .i64 ei, .int .i64 eq, .int .i64 ep, .int .i64 ec, .int .i64 et, .string ew, .int .i64 es, .string en] 28)) w') => (⟨h, (Ext.blk h (BlkA (BlkN rfl))).cell 0, (Ext.blk h (BlkA (BlkN rfl))).cell 1, (Ext.blk h (BlkA (BlkN rfl))).cell 2, (Ext.blk h (BlkA (BlkN rfl))).cell 3, (Ext.blk h (BlkA (BlkN rfl))).cell 4, (Ext.blk h (BlkA (BlkN rfl))).cell 5, (Ext.blk h (BlkA (BlkN rfl))).cell 6, (Ext.blk h (BlkA (BlkN rfl))).cell 7, (Ext.blk h (BlkA (BlkN rfl))).cell 8, (Ext.blk h (BlkA (BlkN rfl))).cell 9, (Ext.blk h (BlkA (BlkN rfl))).cell 10, (Ext.blk h (BlkA (BlkN rfl))).cell 11, (Ext.blk h (BlkN (by simp))).cell 0, (Ext.blk h (BlkN (by simp))).cell 1, (Ext.blk h (BlkN (by simp))).cell 2, (Ext.blk h (BlkN (by simp))).cell 3, (Ext.blk h (BlkN (by simp))).cell 4, (Ext.blk h (BlkN (by simp))).cell 5, (Ext.blk h (BlkN (by simp))).cell 6, (Ext.blk h (BlkN (by simp))).cell 7, (Ext.blk h (BlkN (by simp))).cell 8, (Ext.blk h (BlkN (by simp))).cell 9⟩ : (fun w' : World => Ext ((w.alloc (.cells #[.int .i64 order, .int .i64 status, .int .i64 prior, .int .i64 cur, .int .i64 tax, .slice A n c, .int .i64 paid, .int .i64 refunded, .int .i64 events, .int .i64 refused, .int .i64 stamp, .string who] 25)).alloc (.cells #[.int .i64 ek, .int .i64 eo, .int .i64 ei, .int .i64 eq, .int .i64 ep, .int .i64 ec, .int .i64 et, .string ew, .int .i64 es, .string en] 28)) w' ∧ w'.cell? ⟨w.heap.size, 0, none⟩ = some (.int .i64 order) ∧ w'.cell? ⟨w.heap.size, 1, none⟩ = some (.int .i64 status) ∧ w'.cell? ⟨w.heap.size, 2, none⟩ = some (.int .i64 prior) ∧ w'.cell? ⟨w.heap.size, 3, none⟩ = some (.int .i64 cur) ∧ w'.cell? ⟨w.heap.size, 4, none⟩ = some (.int .i64 tax) ∧ w'.cell? ⟨w.heap.size, 5, none⟩ = some (.slice A n c) ∧ w'.cell? ⟨w.heap.size, 6, none⟩ = some (.int .i64 paid) ∧ w'.cell? ⟨w.heap.size, 7, none⟩ = some (.int .i64 refunded) ∧ w'.cell? ⟨w.heap.size, 8, none⟩ = some (.int .i64 events) ∧ w'.cell? ⟨w.heap.size, 9, none⟩ = some (.int .i64 refused) ∧ w'.cell? ⟨w.heap.size, 10, none⟩ = some (.int .i64 stamp) ∧ w'.cell? ⟨w.heap.size, 11, none⟩ = some (.string who) ∧ w'.cell? ⟨w.heap.size + 1, 0, none⟩ = some (.int .i64 ek) ∧ w'.cell? ⟨w.heap.size + 1, 1, none⟩ = some (.int .i64 eo) ∧ w'.cell? ⟨w.heap.size + 1, 2, none⟩ = some (.int .i64 ei) ∧ w'.cell? ⟨w.heap.size + 1, 3, none⟩ = some (.int .i64 eq) ∧ w'.cell? ⟨w.heap.size + 1, 4, none⟩ = some (.int .i64 ep) ∧ w'.cell? ⟨w.heap.size + 1, 5, none⟩ = some (.int .i64 ec) ∧ w'.cell? ⟨w.heap.size + 1, 6, none⟩ = some (.int .i64 et) ∧ w'.cell? ⟨w.heap.size + 1, 7, none⟩ = some (.string ew) ∧ w'.cell? ⟨w.heap.size + 1, 8, none⟩ = some (.int .i64 es) ∧ w'.cell? ⟨w.heap.size + 1, 9, none⟩ = some (.string en)) w'))
          go_enter Try.func25, Try.ntmps25
          go_wp2_with (first
            | (go_at_call 16; (with_reducible refine (K1.out _ (hr.ext exA)).mono ?_); rintro e w1 ⟨rfl, hx1⟩; have h3 := HS.out w1 exA; go_split_ands)
            | (go_at_call 19; (with_reducible refine (K2.out _).mono ?_); rintro e w2 ⟨r, rfl, hr0, hx2⟩; have r1 : (r != 0) = false := (by simp; exact hr0.2 hC); have h3 := HS.out w2 exA; go_split_ands))
          go_ret
          exact ⟨by rw [HJ.out]; rfl, exA⟩
        · rw [if_neg h1] at hj
          by_cases h2 : s.status ≠ 0 ∧ e.kind = 1
          · rw [if_pos h2] at hj
            have HJ := Lib.hid hj
            rw [hB] at K1
            clear hj hB hv h1
            generalize judge s e = J at *
            generalize check5 e = C at *
            obtain ⟨order, status, prior, cur, tax, ls, paid, refunded, events, refused, stamp, who⟩ := s
            obtain ⟨ek, eo, ei, eq, ep, ec, et, ew, es, en⟩ := e
            unfold stcells evcells at *
            dsimp only at *
            have o1 : (eo != order) = false := by simp; exact hor
            clear hor
            generalize ls.length = n at *
            have hv1 : (events == 1099511627776) = false := by simp; exact hev
            have s1 : (status == 0) = false := by simp; exact h2.1
            have s2 : (status != 0) = true := by simp; exact h2.1
            have k2 : (ek == 1) = true := by simp; exact h2.2
            clear hev h2
            have HS := Lib.hid (fun w' (h : Ext ((w.alloc (.cells #[.int .i64 order, .int .i64 status, .int .i64 prior, .int .i64 cur, .int .i64 tax, .slice A n c, .int .i64 paid, .int .i64 refunded, .int .i64 events, .int .i64 refused, .int .i64 stamp, .string who] 25)).alloc (.cells #[.int .i64 ek, .int .i64 eo, .int .i64 ei, .int .i64 eq, .int .i64 ep, .int .i64 ec, .int .i64 et, .string ew, .int .i64 es, .string en] 28)) w') => (⟨h, (Ext.blk h (BlkA (BlkN rfl))).cell 0, (Ext.blk h (BlkA (BlkN rfl))).cell 1, (Ext.blk h (BlkA (BlkN rfl))).cell 2, (Ext.blk h (BlkA (BlkN rfl))).cell 3, (Ext.blk h (BlkA (BlkN rfl))).cell 4, (Ext.blk h (BlkA (BlkN rfl))).cell 5, (Ext.blk h (BlkA (BlkN rfl))).cell 6, (Ext.blk h (BlkA (BlkN rfl))).cell 7, (Ext.blk h (BlkA (BlkN rfl))).cell 8, (Ext.blk h (BlkA (BlkN rfl))).cell 9, (Ext.blk h (BlkA (BlkN rfl))).cell 10, (Ext.blk h (BlkA (BlkN rfl))).cell 11, (Ext.blk h (BlkN (by simp))).cell 0, (Ext.blk h (BlkN (by simp))).cell 1, (Ext.blk h (BlkN (by simp))).cell 2, (Ext.blk h (BlkN (by simp))).cell 3, (Ext.blk h (BlkN (by simp))).cell 4, (Ext.blk h (BlkN (by simp))).cell 5, (Ext.blk h (BlkN (by simp))).cell 6, (Ext.blk h (BlkN (by simp))).cell 7, (Ext.blk h (BlkN (by simp))).cell 8, (Ext.blk h (BlkN (by simp))).cell 9⟩ : (fun w' : World => Ext ((w.alloc (.cells #[.int .i64 order, .int .i64 status, .int .i64 prior, .int .i64 cur, .int .i64 tax, .slice A n c, .int .i64 paid, .int .i64 refunded, .int .i64 events, .int .i64 refused, .int .i64 stamp, .string who] 25)).alloc (.cells #[.int .i64 ek, .int .i64 eo, .int .i64 ei, .int .i64 eq, .int .i64 ep, .int .i64 ec, .int .i64 et, .string ew, .int .i64 es, .string en] 28)) w' ∧ w'.cell? ⟨w.heap.size, 0, none⟩ = some (.int .i64 order) ∧ w'.cell? ⟨w.heap.size, 1, none⟩ = some (.int .i64 status) ∧ w'.cell? ⟨w.heap.size, 2, none⟩ = some (.int .i64 prior) ∧ w'.cell? ⟨w.heap.size, 3, none⟩ = some (.int .i64 cur) ∧ w'.cell? ⟨w.heap.size, 4, none⟩ = some (.int .i64 tax) ∧ w'.cell? ⟨w.heap.size, 5, none⟩ = some (.slice A n c) ∧ w'.cell? ⟨w.heap.size, 6, none⟩ = some (.int .i64 paid) ∧ w'.cell? ⟨w.heap.size, 7, none⟩ = some (.int .i64 refunded) ∧ w'.cell? ⟨w.heap.size, 8, none⟩ = some (.int .i64 events) ∧ w'.cell? ⟨w.heap.size, 9, none⟩ = some (.int .i64 refused) ∧ w'.cell? ⟨w.heap.size, 10, none⟩ = some (.int .i64 stamp) ∧ w'.cell? ⟨w.heap.size, 11, none⟩ = some (.string who) ∧ w'.cell? ⟨w.heap.size + 1, 0, none⟩ = some (.int .i64 ek) ∧ w'.cell? ⟨w.heap.size + 1, 1, none⟩ = some (.int .i64 eo) ∧ w'.cell? ⟨w.heap.size + 1, 2, none⟩ = some (.int .i64 ei) ∧ w'.cell? ⟨w.heap.size + 1, 3, none⟩ = some (.int .i64 eq) ∧ w'.cell? ⟨w.heap.size + 1, 4, none⟩ = some (.int .i64 ep) ∧ w'.cell? ⟨w.heap.size + 1, 5, none⟩ = some (.int .i64 ec) ∧ w'.cell? ⟨w.heap.size + 1, 6, none⟩ = some (.int .i64 et) ∧ w'.cell? ⟨w.heap.size + 1, 7, none⟩ = some (.string ew) ∧ w'.cell? ⟨w.heap.size + 1, 8, none⟩ = some (.int .i64 es) ∧ w'.cell? ⟨w.heap.size + 1, 9, none⟩ = some (.string en)) w'))
            go_enter Try.func25, Try.ntmps25
            go_wp2_with (first
              | (go_at_call 16; (with_reducible refine (K1.out _ (hr.ext exA)).mono ?_); rintro e w1 ⟨rfl, hx1⟩; have h3 := HS.out w1 exA; go_split_ands)
              | (go_at_call 19; (with_reducible refine (K2.out _).mono ?_); rintro e w2 ⟨r, rfl, hr0, hx2⟩; have r1 : (r != 0) = false := (by simp; exact hr0.2 hC); have h3 := HS.out w2 exA; go_split_ands))
            go_ret
            exact ⟨by rw [HJ.out]; rfl, exA⟩
          · rw [if_neg h2] at hj
            have K3 := Lib.hid fun W (h : LsRd W A s.lines) => ruse_any s e.kind A c W h (fun l hl => (lnB_iff.1 (rises_mem hv.rises l hl).1).2.2.2.1) hn
            cases hU : useB s e.kind with
            | true =>
              rw [if_neg (by simp [hU])] at hj
              rw [hj]
              cases ht : thereB e.item s.lines with
              | true => exact rjudge_yes s e A c w hr hw hw2 hw3 hB hC hev hor hU ht
              | false => exact rjudge_not s e A c w hr hw hw2 hw3 hB hC hev hor hU ht
            | false =>
              rw [if_pos hU] at hj
              have HJ := Lib.hid hj
              have hs := Decidable.em (s.status = 0)
              rw [hB] at K1
              rw [hU] at K3
              clear hj hB hv hU
              generalize judge s e = J at *
              generalize check5 e = C at *
              obtain ⟨order, status, prior, cur, tax, ls, paid, refunded, events, refused, stamp, who⟩ := s
              obtain ⟨ek, eo, ei, eq, ep, ec, et, ew, es, en⟩ := e
              unfold stcells evcells at *
              dsimp only at *
              have o1 : (eo != order) = false := by simp; exact hor
              clear hor
              generalize ls.length = n at *
              have hv1 : (events == 1099511627776) = false := by simp; exact hev
              clear hev
              have HS := Lib.hid (fun w' (h : Ext ((w.alloc (.cells #[.int .i64 order, .int .i64 status, .int .i64 prior, .int .i64 cur, .int .i64 tax, .slice A n c, .int .i64 paid, .int .i64 refunded, .int .i64 events, .int .i64 refused, .int .i64 stamp, .string who] 25)).alloc (.cells #[.int .i64 ek, .int .i64 eo, .int .i64 ei, .int .i64 eq, .int .i64 ep, .int .i64 ec, .int .i64 et, .string ew, .int .i64 es, .string en] 28)) w') => (⟨h, (Ext.blk h (BlkA (BlkN rfl))).cell 0, (Ext.blk h (BlkA (BlkN rfl))).cell 1, (Ext.blk h (BlkA (BlkN rfl))).cell 2, (Ext.blk h (BlkA (BlkN rfl))).cell 3, (Ext.blk h (BlkA (BlkN rfl))).cell 4, (Ext.blk h (BlkA (BlkN rfl))).cell 5, (Ext.blk h (BlkA (BlkN rfl))).cell 6, (Ext.blk h (BlkA (BlkN rfl))).cell 7, (Ext.blk h (BlkA (BlkN rfl))).cell 8, (Ext.blk h (BlkA (BlkN rfl))).cell 9, (Ext.blk h (BlkA (BlkN rfl))).cell 10, (Ext.blk h (BlkA (BlkN rfl))).cell 11, (Ext.blk h (BlkN (by simp))).cell 0, (Ext.blk h (BlkN (by simp))).cell 1, (Ext.blk h (BlkN (by simp))).cell 2, (Ext.blk h (BlkN (by simp))).cell 3, (Ext.blk h (BlkN (by simp))).cell 4, (Ext.blk h (BlkN (by simp))).cell 5, (Ext.blk h (BlkN (by simp))).cell 6, (Ext.blk h (BlkN (by simp))).cell 7, (Ext.blk h (BlkN (by simp))).cell 8, (Ext.blk h (BlkN (by simp))).cell 9⟩ : (fun w' : World => Ext ((w.alloc (.cells #[.int .i64 order, .int .i64 status, .int .i64 prior, .int .i64 cur, .int .i64 tax, .slice A n c, .int .i64 paid, .int .i64 refunded, .int .i64 events, .int .i64 refused, .int .i64 stamp, .string who] 25)).alloc (.cells #[.int .i64 ek, .int .i64 eo, .int .i64 ei, .int .i64 eq, .int .i64 ep, .int .i64 ec, .int .i64 et, .string ew, .int .i64 es, .string en] 28)) w' ∧ w'.cell? ⟨w.heap.size, 0, none⟩ = some (.int .i64 order) ∧ w'.cell? ⟨w.heap.size, 1, none⟩ = some (.int .i64 status) ∧ w'.cell? ⟨w.heap.size, 2, none⟩ = some (.int .i64 prior) ∧ w'.cell? ⟨w.heap.size, 3, none⟩ = some (.int .i64 cur) ∧ w'.cell? ⟨w.heap.size, 4, none⟩ = some (.int .i64 tax) ∧ w'.cell? ⟨w.heap.size, 5, none⟩ = some (.slice A n c) ∧ w'.cell? ⟨w.heap.size, 6, none⟩ = some (.int .i64 paid) ∧ w'.cell? ⟨w.heap.size, 7, none⟩ = some (.int .i64 refunded) ∧ w'.cell? ⟨w.heap.size, 8, none⟩ = some (.int .i64 events) ∧ w'.cell? ⟨w.heap.size, 9, none⟩ = some (.int .i64 refused) ∧ w'.cell? ⟨w.heap.size, 10, none⟩ = some (.int .i64 stamp) ∧ w'.cell? ⟨w.heap.size, 11, none⟩ = some (.string who) ∧ w'.cell? ⟨w.heap.size + 1, 0, none⟩ = some (.int .i64 ek) ∧ w'.cell? ⟨w.heap.size + 1, 1, none⟩ = some (.int .i64 eo) ∧ w'.cell? ⟨w.heap.size + 1, 2, none⟩ = some (.int .i64 ei) ∧ w'.cell? ⟨w.heap.size + 1, 3, none⟩ = some (.int .i64 eq) ∧ w'.cell? ⟨w.heap.size + 1, 4, none⟩ = some (.int .i64 ep) ∧ w'.cell? ⟨w.heap.size + 1, 5, none⟩ = some (.int .i64 ec) ∧ w'.cell? ⟨w.heap.size + 1, 6, none⟩ = some (.int .i64 et) ∧ w'.cell? ⟨w.heap.size + 1, 7, none⟩ = some (.string ew) ∧ w'.cell? ⟨w.heap.size + 1, 8, none⟩ = some (.int .i64 es) ∧ w'.cell? ⟨w.heap.size + 1, 9, none⟩ = some (.string en)) w'))
              rcases hs with hs | hs
              · have s1 : (status == 0) = true := by simp; exact hs
                have s2 : (status != 0) = false := by simp; exact hs
                have k2 : (ek != 1) = false := by simp; exact Decidable.byContradiction fun h => h1 ⟨hs, h⟩
                clear h1 h2 hs
                go_enter Try.func25, Try.ntmps25
                go_wp2_with (first
                  | (go_at_call 16; (with_reducible refine (K1.out _ (hr.ext exA)).mono ?_); rintro e w1 ⟨rfl, hx1⟩; have h3 := HS.out w1 exA; go_split_ands)
                  | (go_at_call 19; (with_reducible refine (K2.out _).mono ?_); rintro e w2 ⟨r, rfl, hr0, hx2⟩; have r1 : (r != 0) = false := (by simp; exact hr0.2 hC); have h3 := HS.out w2 exA; go_split_ands)
                  | (go_at_call 17; (with_reducible refine (K3.out _ (hr.ext exA)).mono ?_); rintro e w3 ⟨rfl, hx3⟩))
                go_ret
                exact ⟨by rw [HJ.out]; rfl, exA⟩
              · have s1 : (status == 0) = false := by simp; exact hs
                have s2 : (status != 0) = true := by simp; exact hs
                have k2 : (ek == 1) = false := by simp; exact fun h => h2 ⟨hs, h⟩
                clear h1 h2 hs
                go_enter Try.func25, Try.ntmps25
                go_wp2_with (first
                  | (go_at_call 16; (with_reducible refine (K1.out _ (hr.ext exA)).mono ?_); rintro e w1 ⟨rfl, hx1⟩; have h3 := HS.out w1 exA; go_split_ands)
                  | (go_at_call 19; (with_reducible refine (K2.out _).mono ?_); rintro e w2 ⟨r, rfl, hr0, hx2⟩; have r1 : (r != 0) = false := (by simp; exact hr0.2 hC); have h3 := HS.out w2 exA; go_split_ands)
                  | (go_at_call 17; (with_reducible refine (K3.out _ (hr.ext exA)).mono ?_); rintro e w3 ⟨rfl, hx3⟩))
                go_ret
                exact ⟨by rw [HJ.out]; rfl, exA⟩
      · rw [if_pos hor] at hj
        have HJ := Lib.hid hj
        rw [hB] at K1
        clear hj hB hv
        generalize judge s e = J at *
        generalize check5 e = C at *
        obtain ⟨order, status, prior, cur, tax, ls, paid, refunded, events, refused, stamp, who⟩ := s
        obtain ⟨ek, eo, ei, eq, ep, ec, et, ew, es, en⟩ := e
        unfold stcells evcells at *
        dsimp only at *
        generalize ls.length = n at *
        have hv1 : (events == 1099511627776) = false := by simp; exact hev
        have o1 : (eo != order) = true := by simp; exact hor
        clear hev hor
        have HS := Lib.hid (fun w' (h : Ext ((w.alloc (.cells #[.int .i64 order, .int .i64 status, .int .i64 prior, .int .i64 cur, .int .i64 tax, .slice A n c, .int .i64 paid, .int .i64 refunded, .int .i64 events, .int .i64 refused, .int .i64 stamp, .string who] 25)).alloc (.cells #[.int .i64 ek, .int .i64 eo, .int .i64 ei, .int .i64 eq, .int .i64 ep, .int .i64 ec, .int .i64 et, .string ew, .int .i64 es, .string en] 28)) w') => (⟨h, (Ext.blk h (BlkA (BlkN rfl))).cell 0, (Ext.blk h (BlkA (BlkN rfl))).cell 1, (Ext.blk h (BlkA (BlkN rfl))).cell 2, (Ext.blk h (BlkA (BlkN rfl))).cell 3, (Ext.blk h (BlkA (BlkN rfl))).cell 4, (Ext.blk h (BlkA (BlkN rfl))).cell 5, (Ext.blk h (BlkA (BlkN rfl))).cell 6, (Ext.blk h (BlkA (BlkN rfl))).cell 7, (Ext.blk h (BlkA (BlkN rfl))).cell 8, (Ext.blk h (BlkA (BlkN rfl))).cell 9, (Ext.blk h (BlkA (BlkN rfl))).cell 10, (Ext.blk h (BlkA (BlkN rfl))).cell 11, (Ext.blk h (BlkN (by simp))).cell 0, (Ext.blk h (BlkN (by simp))).cell 1, (Ext.blk h (BlkN (by simp))).cell 2, (Ext.blk h (BlkN (by simp))).cell 3, (Ext.blk h (BlkN (by simp))).cell 4, (Ext.blk h (BlkN (by simp))).cell 5, (Ext.blk h (BlkN (by simp))).cell 6, (Ext.blk h (BlkN (by simp))).cell 7, (Ext.blk h (BlkN (by simp))).cell 8, (Ext.blk h (BlkN (by simp))).cell 9⟩ : (fun w' : World => Ext ((w.alloc (.cells #[.int .i64 order, .int .i64 status, .int .i64 prior, .int .i64 cur, .int .i64 tax, .slice A n c, .int .i64 paid, .int .i64 refunded, .int .i64 events, .int .i64 refused, .int .i64 stamp, .string who] 25)).alloc (.cells #[.int .i64 ek, .int .i64 eo, .int .i64 ei, .int .i64 eq, .int .i64 ep, .int .i64 ec, .int .i64 et, .string ew, .int .i64 es, .string en] 28)) w' ∧ w'.cell? ⟨w.heap.size, 0, none⟩ = some (.int .i64 order) ∧ w'.cell? ⟨w.heap.size, 1, none⟩ = some (.int .i64 status) ∧ w'.cell? ⟨w.heap.size, 2, none⟩ = some (.int .i64 prior) ∧ w'.cell? ⟨w.heap.size, 3, none⟩ = some (.int .i64 cur) ∧ w'.cell? ⟨w.heap.size, 4, none⟩ = some (.int .i64 tax) ∧ w'.cell? ⟨w.heap.size, 5, none⟩ = some (.slice A n c) ∧ w'.cell? ⟨w.heap.size, 6, none⟩ = some (.int .i64 paid) ∧ w'.cell? ⟨w.heap.size, 7, none⟩ = some (.int .i64 refunded) ∧ w'.cell? ⟨w.heap.size, 8, none⟩ = some (.int .i64 events) ∧ w'.cell? ⟨w.heap.size, 9, none⟩ = some (.int .i64 refused) ∧ w'.cell? ⟨w.heap.size, 10, none⟩ = some (.int .i64 stamp) ∧ w'.cell? ⟨w.heap.size, 11, none⟩ = some (.string who) ∧ w'.cell? ⟨w.heap.size + 1, 0, none⟩ = some (.int .i64 ek) ∧ w'.cell? ⟨w.heap.size + 1, 1, none⟩ = some (.int .i64 eo) ∧ w'.cell? ⟨w.heap.size + 1, 2, none⟩ = some (.int .i64 ei) ∧ w'.cell? ⟨w.heap.size + 1, 3, none⟩ = some (.int .i64 eq) ∧ w'.cell? ⟨w.heap.size + 1, 4, none⟩ = some (.int .i64 ep) ∧ w'.cell? ⟨w.heap.size + 1, 5, none⟩ = some (.int .i64 ec) ∧ w'.cell? ⟨w.heap.size + 1, 6, none⟩ = some (.int .i64 et) ∧ w'.cell? ⟨w.heap.size + 1, 7, none⟩ = some (.string ew) ∧ w'.cell? ⟨w.heap.size + 1, 8, none⟩ = some (.int .i64 es) ∧ w'.cell? ⟨w.heap.size + 1, 9, none⟩ = some (.string en)) w'))
        go_enter Try.func25, Try.ntmps25
        go_wp2_with (first
          | (go_at_call 16; (with_reducible refine (K1.out _ (hr.ext exA)).mono ?_); rintro e w1 ⟨rfl, hx1⟩; have h3 := HS.out w1 exA; go_split_ands)
          | (go_at_call 19; (with_reducible refine (K2.out _).mono ?_); rintro e w2 ⟨r, rfl, hr0, hx2⟩; have r1 : (r != 0) = false := (by simp; exact hr0.2 hC); have h3 := HS.out w2 exA; go_split_ands))
        go_ret
        exact ⟨by rw [HJ.out]; rfl, exA⟩
  · have HJ : Hid (judge s e = 1) := Lib.hid (by rw [hj, if_pos (.inr (.inl hC))])
    rw [hB] at K1
    clear hj hB hv
    generalize judge s e = J at *
    generalize check5 e = C at *
    obtain ⟨order, status, prior, cur, tax, ls, paid, refunded, events, refused, stamp, who⟩ := s
    obtain ⟨ek, eo, ei, eq, ep, ec, et, ew, es, en⟩ := e
    unfold stcells evcells at *
    dsimp only at *
    generalize ls.length = n at *
    have HS := Lib.hid (fun w' (h : Ext ((w.alloc (.cells #[.int .i64 order, .int .i64 status, .int .i64 prior, .int .i64 cur, .int .i64 tax, .slice A n c, .int .i64 paid, .int .i64 refunded, .int .i64 events, .int .i64 refused, .int .i64 stamp, .string who] 25)).alloc (.cells #[.int .i64 ek, .int .i64 eo, .int .i64 ei, .int .i64 eq, .int .i64 ep, .int .i64 ec, .int .i64 et, .string ew, .int .i64 es, .string en] 28)) w') => (⟨h, (Ext.blk h (BlkA (BlkN rfl))).cell 0, (Ext.blk h (BlkA (BlkN rfl))).cell 1, (Ext.blk h (BlkA (BlkN rfl))).cell 2, (Ext.blk h (BlkA (BlkN rfl))).cell 3, (Ext.blk h (BlkA (BlkN rfl))).cell 4, (Ext.blk h (BlkA (BlkN rfl))).cell 5, (Ext.blk h (BlkA (BlkN rfl))).cell 6, (Ext.blk h (BlkA (BlkN rfl))).cell 7, (Ext.blk h (BlkA (BlkN rfl))).cell 8, (Ext.blk h (BlkA (BlkN rfl))).cell 9, (Ext.blk h (BlkA (BlkN rfl))).cell 10, (Ext.blk h (BlkA (BlkN rfl))).cell 11, (Ext.blk h (BlkN (by simp))).cell 0, (Ext.blk h (BlkN (by simp))).cell 1, (Ext.blk h (BlkN (by simp))).cell 2, (Ext.blk h (BlkN (by simp))).cell 3, (Ext.blk h (BlkN (by simp))).cell 4, (Ext.blk h (BlkN (by simp))).cell 5, (Ext.blk h (BlkN (by simp))).cell 6, (Ext.blk h (BlkN (by simp))).cell 7, (Ext.blk h (BlkN (by simp))).cell 8, (Ext.blk h (BlkN (by simp))).cell 9⟩ : (fun w' : World => Ext ((w.alloc (.cells #[.int .i64 order, .int .i64 status, .int .i64 prior, .int .i64 cur, .int .i64 tax, .slice A n c, .int .i64 paid, .int .i64 refunded, .int .i64 events, .int .i64 refused, .int .i64 stamp, .string who] 25)).alloc (.cells #[.int .i64 ek, .int .i64 eo, .int .i64 ei, .int .i64 eq, .int .i64 ep, .int .i64 ec, .int .i64 et, .string ew, .int .i64 es, .string en] 28)) w' ∧ w'.cell? ⟨w.heap.size, 0, none⟩ = some (.int .i64 order) ∧ w'.cell? ⟨w.heap.size, 1, none⟩ = some (.int .i64 status) ∧ w'.cell? ⟨w.heap.size, 2, none⟩ = some (.int .i64 prior) ∧ w'.cell? ⟨w.heap.size, 3, none⟩ = some (.int .i64 cur) ∧ w'.cell? ⟨w.heap.size, 4, none⟩ = some (.int .i64 tax) ∧ w'.cell? ⟨w.heap.size, 5, none⟩ = some (.slice A n c) ∧ w'.cell? ⟨w.heap.size, 6, none⟩ = some (.int .i64 paid) ∧ w'.cell? ⟨w.heap.size, 7, none⟩ = some (.int .i64 refunded) ∧ w'.cell? ⟨w.heap.size, 8, none⟩ = some (.int .i64 events) ∧ w'.cell? ⟨w.heap.size, 9, none⟩ = some (.int .i64 refused) ∧ w'.cell? ⟨w.heap.size, 10, none⟩ = some (.int .i64 stamp) ∧ w'.cell? ⟨w.heap.size, 11, none⟩ = some (.string who) ∧ w'.cell? ⟨w.heap.size + 1, 0, none⟩ = some (.int .i64 ek) ∧ w'.cell? ⟨w.heap.size + 1, 1, none⟩ = some (.int .i64 eo) ∧ w'.cell? ⟨w.heap.size + 1, 2, none⟩ = some (.int .i64 ei) ∧ w'.cell? ⟨w.heap.size + 1, 3, none⟩ = some (.int .i64 eq) ∧ w'.cell? ⟨w.heap.size + 1, 4, none⟩ = some (.int .i64 ep) ∧ w'.cell? ⟨w.heap.size + 1, 5, none⟩ = some (.int .i64 ec) ∧ w'.cell? ⟨w.heap.size + 1, 6, none⟩ = some (.int .i64 et) ∧ w'.cell? ⟨w.heap.size + 1, 7, none⟩ = some (.string ew) ∧ w'.cell? ⟨w.heap.size + 1, 8, none⟩ = some (.int .i64 es) ∧ w'.cell? ⟨w.heap.size + 1, 9, none⟩ = some (.string en)) w'))
    go_enter Try.func25, Try.ntmps25
    go_wp2_with (first
      | (go_at_call 16; (with_reducible refine (K1.out _ (hr.ext exA)).mono ?_); rintro e w1 ⟨rfl, hx1⟩; have h3 := HS.out w1 exA; go_split_ands)
      | (go_at_call 19; (with_reducible refine (K2.out _).mono ?_); rintro e w2 ⟨r, rfl, hr0, hx2⟩; have r1 : (r != 0) = true := (by simp; exact fun h => hC (hr0.1 h)); have h3 := HS.out w2 exA; go_split_ands))
    go_ret
    exact ⟨by rw [HJ.out]; rfl, exA⟩
end Go.Proofs.Ytlpjhnecihhkfaa
