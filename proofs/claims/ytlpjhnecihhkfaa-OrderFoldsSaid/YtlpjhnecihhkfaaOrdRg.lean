/-
  The walk of the reference's Judge: where the item's line is there.
-/
import Derived.Test.YtlpjhnecihhkfaaOrdRe
import Derived.Test.YtlpjhnecihhkfaaOrdRd
import Derived.Test.YtlpjhnecihhkfaaOrdRc5
import Derived.Test.YtlpjhnecihhkfaaOrdC
namespace Go.Proofs.Ytlpjhnecihhkfaa
open Go.RowKit
set_option linter.unusedVariables false
set_option linter.unusedSimpArgs false
set_option maxRecDepth 100000 in
set_option maxHeartbeats 8000000 in
theorem rjudge_yes_o (s : St) (e : Ev) (A : Option Addr) (c : Nat) (w : World) (hr : LsRd w A s.lines) (hw : s.who.size ≤ 4611686018427387904) (hw2 : e.who.size ≤ 4611686018427387904) (hw3 : e.note.size ≤ 4611686018427387904) (hB : validB s = true) (hC : check5 e = 0) (hev : s.events ≠ 1099511627776) (hor : e.order = s.order) (hU : useB s e.kind = true) (ht : thereB e.item s.lines = true) (hkk : e.kind ≠ 2 ∧ e.kind ≠ 3 ∧ e.kind ≠ 4 ∧ e.kind ≠ 6 ∧ e.kind ≠ 7) :
    Calls Try.prog 25 #[.agg (stcells s A c), .agg (evcells e)] w fun e' w' => e' = .returned (.int .i64 (amt s e)) ∧ Ext w w' := by
  have hv := valid_iff.1 hB
  have he := event_iff.1 hC
  have hlen := hv.len
  have K1 := Lib.hid fun W (h : LsRd W A s.lines) => rvalid_any s A c W h (by omega) hw
  have K2 := Lib.hid fun W => rcheck5_any e W hw2 hw3
  have K3 := Lib.hid fun W (h : LsRd W A s.lines) => ruse_any s e.kind A c W h (fun l hl => (lnB_iff.1 (rises_mem hv.rises l hl).1).2.2.2.1) (by omega)
  have K4 := Lib.hid fun W (h : LsRd W A s.lines) => rat_any s e.item A c W h hv.rises (by omega)
  have KD := Lib.hid fun W (h : LsRd W A s.lines) => rdue_any s A c W h (fun l hl => (rises_mem hv.rises l hl).1) hv.len hv.tax
  obtain ⟨hP, hline⟩ := line_there hv.rises ht
  obtain ⟨b, o, rfl, hc⟩ := ls_at hr hP
  have Hl := (lnB_iff.1 (rises_mem hv.rises _ (List.getElem_mem hP)).1).2
  obtain ⟨l, hl⟩ : ∃ l, l = s.lines[posOf e.item s.lines]'hP := ⟨_, rfl⟩
  rw [← hl] at Hl hline hc
  clear hl
  have Hv : Hid (amt s e = if ((e.kind = 2 ∨ e.kind = 6 ∨ e.kind = 4) ∧ e.qty = 0) ∨ ((e.kind = 3 ∨ e.kind = 7) ∧ e.price = 0) then 6
    else if e.kind = 2 ∧ l.price ≠ e.price then 8
      else if (e.kind = 2 ∧ 100000 < l.qty + e.qty) ∨ (e.kind = 6 ∧ l.qty < e.qty) ∨ (e.kind = 4 ∧ l.qty - l.shipped < e.qty) then 10
      else if (e.kind = 3 ∧ due s < s.paid + e.price) ∨ (e.kind = 7 ∧ s.paid < s.refunded + e.price) then 10 else 0) := Lib.hid (by unfold amt; rw [hline])
  have hb := net_bound fun l hl => (rises_mem hv.rises l hl).1
  have hx := tax_bound hb.1 hv.tax.1 hv.tax.2
  have hdu : due s = net s.lines + taxOf (net s.lines) s.tax := rfl
  have hp := hv.paid
  have hrf := hv.refunded
  have hpr := he.price
  have hqt := he.qty
  have hk := he.kind
  have hD : 0 ≤ s.paid ∧ s.paid ≤ 320000000000000 := by omega
  clear hb hx hdu hp
  rw [hB] at K1
  rw [hC] at K2
  rw [hU] at K3
  rw [atI_yes ht] at K4
  have hst : (e.kind = 1 ∧ s.status = 0) ∨ (e.kind ≠ 1 ∧ s.status ≠ 0) := by
    have h := hU
    unfold useB at h
    repeat' split at h
    all_goals (simp only [decide_eq_true_eq, Bool.or_eq_true, Bool.and_eq_true] at h; omega)
  generalize posOf e.item s.lines = P at *
  generalize due s = D at *
  generalize amt s e = R at *
  clear hv he ht hB hC hU hline
  obtain ⟨order, status, prior, cur, tax, ls, paid, refunded, events, refused, stamp, who⟩ := s
  obtain ⟨ek, eo, ei, eq, ep, ec, et, ew, es, en⟩ := e
  obtain ⟨li, lp, lq, lsh⟩ := l
  unfold stcells evcells at *
  unfold lncells at hc
  dsimp only at *
  have o1 : (eo != order) = false := by simp; exact hor
  clear hor
  have Hc := Lib.hid hc
  clear hc
  obtain ⟨hl1, hl2, hl3⟩ := Hl
  generalize ls.length = n at *
  have hw1 : IntKind.i64.wrap (paid + ep) = paid + ep := by rw [IntKind.wrap_i64]; omega
  have hw4 : IntKind.i64.wrap (refunded + ep) = refunded + ep := by rw [IntKind.wrap_i64]; omega
  have hv1 : (events == 1099511627776) = false := by simp; exact hev
  clear hev
  have hw2 : IntKind.i64.wrap (lq + eq) = lq + eq := by rw [IntKind.wrap_i64]; omega
  have hw3 : IntKind.i64.wrap (lq - lsh) = lq - lsh := by rw [IntKind.wrap_i64]; omega
  have hwP : IntKind.i64.wrap (P : Int) = (P : Int) := by rw [IntKind.wrap_i64]; omega
  have hPn : (P : Int) < (n : Int) := by omega
  have hP0 : (0 : Int) ≤ (P : Int) := by omega
  have HS := Lib.hid (fun w' (h : Ext ((w.alloc (.cells #[.int .i64 order, .int .i64 status, .int .i64 prior, .int .i64 cur, .int .i64 tax, .slice (some ⟨b, o, none⟩) n c, .int .i64 paid, .int .i64 refunded, .int .i64 events, .int .i64 refused, .int .i64 stamp, .string who] 25)).alloc (.cells #[.int .i64 ek, .int .i64 eo, .int .i64 ei, .int .i64 eq, .int .i64 ep, .int .i64 ec, .int .i64 et, .string ew, .int .i64 es, .string en] 28)) w') => (⟨h, (Ext.blk h (BlkA (BlkN rfl))).cell 0, (Ext.blk h (BlkA (BlkN rfl))).cell 1, (Ext.blk h (BlkA (BlkN rfl))).cell 2, (Ext.blk h (BlkA (BlkN rfl))).cell 3, (Ext.blk h (BlkA (BlkN rfl))).cell 4, (Ext.blk h (BlkA (BlkN rfl))).cell 5, (Ext.blk h (BlkA (BlkN rfl))).cell 6, (Ext.blk h (BlkA (BlkN rfl))).cell 7, (Ext.blk h (BlkA (BlkN rfl))).cell 8, (Ext.blk h (BlkA (BlkN rfl))).cell 9, (Ext.blk h (BlkA (BlkN rfl))).cell 10, (Ext.blk h (BlkA (BlkN rfl))).cell 11, (Ext.blk h (BlkN (by simp))).cell 0, (Ext.blk h (BlkN (by simp))).cell 1, (Ext.blk h (BlkN (by simp))).cell 2, (Ext.blk h (BlkN (by simp))).cell 3, (Ext.blk h (BlkN (by simp))).cell 4, (Ext.blk h (BlkN (by simp))).cell 5, (Ext.blk h (BlkN (by simp))).cell 6, (Ext.blk h (BlkN (by simp))).cell 7, (Ext.blk h (BlkN (by simp))).cell 8, (Ext.blk h (BlkN (by simp))).cell 9⟩ : (fun w' : World => Ext ((w.alloc (.cells #[.int .i64 order, .int .i64 status, .int .i64 prior, .int .i64 cur, .int .i64 tax, .slice (some ⟨b, o, none⟩) n c, .int .i64 paid, .int .i64 refunded, .int .i64 events, .int .i64 refused, .int .i64 stamp, .string who] 25)).alloc (.cells #[.int .i64 ek, .int .i64 eo, .int .i64 ei, .int .i64 eq, .int .i64 ep, .int .i64 ec, .int .i64 et, .string ew, .int .i64 es, .string en] 28)) w' ∧ w'.cell? ⟨w.heap.size, 0, none⟩ = some (.int .i64 order) ∧ w'.cell? ⟨w.heap.size, 1, none⟩ = some (.int .i64 status) ∧ w'.cell? ⟨w.heap.size, 2, none⟩ = some (.int .i64 prior) ∧ w'.cell? ⟨w.heap.size, 3, none⟩ = some (.int .i64 cur) ∧ w'.cell? ⟨w.heap.size, 4, none⟩ = some (.int .i64 tax) ∧ w'.cell? ⟨w.heap.size, 5, none⟩ = some (.slice (some ⟨b, o, none⟩) n c) ∧ w'.cell? ⟨w.heap.size, 6, none⟩ = some (.int .i64 paid) ∧ w'.cell? ⟨w.heap.size, 7, none⟩ = some (.int .i64 refunded) ∧ w'.cell? ⟨w.heap.size, 8, none⟩ = some (.int .i64 events) ∧ w'.cell? ⟨w.heap.size, 9, none⟩ = some (.int .i64 refused) ∧ w'.cell? ⟨w.heap.size, 10, none⟩ = some (.int .i64 stamp) ∧ w'.cell? ⟨w.heap.size, 11, none⟩ = some (.string who) ∧ w'.cell? ⟨w.heap.size + 1, 0, none⟩ = some (.int .i64 ek) ∧ w'.cell? ⟨w.heap.size + 1, 1, none⟩ = some (.int .i64 eo) ∧ w'.cell? ⟨w.heap.size + 1, 2, none⟩ = some (.int .i64 ei) ∧ w'.cell? ⟨w.heap.size + 1, 3, none⟩ = some (.int .i64 eq) ∧ w'.cell? ⟨w.heap.size + 1, 4, none⟩ = some (.int .i64 ep) ∧ w'.cell? ⟨w.heap.size + 1, 5, none⟩ = some (.int .i64 ec) ∧ w'.cell? ⟨w.heap.size + 1, 6, none⟩ = some (.int .i64 et) ∧ w'.cell? ⟨w.heap.size + 1, 7, none⟩ = some (.string ew) ∧ w'.cell? ⟨w.heap.size + 1, 8, none⟩ = some (.int .i64 es) ∧ w'.cell? ⟨w.heap.size + 1, 9, none⟩ = some (.string en)) w'))
  have e2 : (ek == 2) = false := by simp; exact hkk.1
  have e3 : (ek == 3) = false := by simp; exact hkk.2.1
  have e4 : (ek == 4) = false := by simp; exact hkk.2.2.1
  have e6 : (ek == 6) = false := by simp; exact hkk.2.2.2.1
  have e7 : (ek == 7) = false := by simp; exact hkk.2.2.2.2
  clear hkk
  refine hst.elim ?aa ?bb
  case' aa =>
    rintro ⟨hk1, hs1⟩; clear hst
    have k2 : (ek != 1) = false := by simp; exact hk1
    have s1 : (status == 0) = true := by simp; exact hs1
    have s2 : (status != 0) = false := by simp; exact hs1
    clear hs1 hk1
  case' bb =>
    rintro ⟨hk1, hs1⟩; clear hst
    have k1 : (ek == 1) = false := by simp; exact hk1
    have s1 : (status == 0) = false := by simp; exact hs1
    have s2 : (status != 0) = true := by simp; exact hs1
    clear hs1 hk1
  all_goals
    go_enter Try.func25, Try.ntmps25
    go_wp2_with (first
      | (go_at_call 16; (with_reducible refine (K1.out _ (hr.ext exA)).mono ?_); rintro e w1 ⟨rfl, hx1⟩; have h3 := HS.out w1 exA; go_split_ands)
      | (go_at_call 19; (with_reducible refine (K2.out _).mono ?_); rintro e w2 ⟨r, rfl, hr0, hx2⟩; obtain rfl : r = 0 := hr0.2 (by trivial); have h3 := HS.out w2 exA; go_split_ands)
      | (go_at_call 17; (with_reducible refine (K3.out _ (hr.ext exA)).mono ?_); rintro e w3 ⟨rfl, hx3⟩; have h3 := HS.out w3 exA; go_split_ands)
      | (go_at_call 45; (with_reducible refine (K4.out _ (hr.ext exA)).mono ?_); rintro e w4 ⟨rfl, hx4⟩; have h3 := HS.out w4 exA; go_split_ands; have y1 : Ext w w4 := exA; have r1 := range_ext Hc.out y1; have d1 : w4.cell? ⟨b, o + P * 4 + 1, none⟩ = some (.int .i64 lp) := r1 1 _ rfl; have d2 : w4.cell? ⟨b, o + P * 4 + 2, none⟩ = some (.int .i64 lq) := r1 2 _ rfl; have d3 : w4.cell? ⟨b, o + P * 4 + 3, none⟩ = some (.int .i64 lsh) := r1 3 _ rfl; clear r1))
    all_goals try (go_ret; refine ⟨?_, exA⟩; rw [Hv.out]; clear K1 K2 K3 K4 KD HS; (first | (simp only [beq_iff_eq, beq_eq_false_iff_ne, ne_eq, bne_iff_ne, bne_eq_false_iff_eq] at *) | skip); first | rfl | (simp [*, beq_dec]; done) | (simp [*, beq_dec]; omega) | (simp [*, beq_dec]; split <;> omega) | (simp [*, beq_dec]; split <;> split <;> omega))
    all_goals
      go_quiet (fail)
      go_wp2_with fail
      all_goals try (go_ret; refine ⟨?_, exA⟩; rw [Hv.out]; clear K1 K2 K3 K4 KD HS; (first | (simp only [beq_iff_eq, beq_eq_false_iff_ne, ne_eq, bne_iff_ne, bne_eq_false_iff_eq] at *) | skip); first | rfl | (simp [*, beq_dec]; done) | (simp [*, beq_dec]; omega) | (simp [*, beq_dec]; split <;> omega) | (simp [*, beq_dec]; split <;> split <;> omega))
    all_goals
      go_quiet (fail)
      go_wp2_with fail
      all_goals try (go_ret; refine ⟨?_, exA⟩; rw [Hv.out]; clear K1 K2 K3 K4 KD HS; (first | (simp only [beq_iff_eq, beq_eq_false_iff_ne, ne_eq, bne_iff_ne, bne_eq_false_iff_eq] at *) | skip); first | rfl | (simp [*, beq_dec]; done) | (simp [*, beq_dec]; omega) | (simp [*, beq_dec]; split <;> omega) | (simp [*, beq_dec]; split <;> split <;> omega))
    all_goals first
      | (go_quiet (fail)
         go_wp2_with fail
         all_goals (go_ret; refine ⟨?_, exA⟩; rw [Hv.out]; clear K1 K2 K3 K4 KD HS; (first | (simp only [beq_iff_eq, beq_eq_false_iff_ne, ne_eq, bne_iff_ne, bne_eq_false_iff_eq] at *) | skip); first | rfl | (simp [*, beq_dec]; done) | (simp [*, beq_dec]; omega) | (simp [*, beq_dec]; split <;> omega) | (simp [*, beq_dec]; split <;> split <;> omega)))
      | ((go_region_held3 (fun w' : World => Ext ((w.alloc (.cells #[.int .i64 order, .int .i64 status, .int .i64 prior, .int .i64 cur, .int .i64 tax, .slice (some ⟨b, o, none⟩) n c, .int .i64 paid, .int .i64 refunded, .int .i64 events, .int .i64 refused, .int .i64 stamp, .string who] 25)).alloc (.cells #[.int .i64 ek, .int .i64 eo, .int .i64 ei, .int .i64 eq, .int .i64 ep, .int .i64 ec, .int .i64 et, .string ew, .int .i64 es, .string en] 28)) w' ∧ w'.cell? ⟨w.heap.size, 0, none⟩ = some (.int .i64 order) ∧ w'.cell? ⟨w.heap.size, 1, none⟩ = some (.int .i64 status) ∧ w'.cell? ⟨w.heap.size, 2, none⟩ = some (.int .i64 prior) ∧ w'.cell? ⟨w.heap.size, 3, none⟩ = some (.int .i64 cur) ∧ w'.cell? ⟨w.heap.size, 4, none⟩ = some (.int .i64 tax) ∧ w'.cell? ⟨w.heap.size, 5, none⟩ = some (.slice (some ⟨b, o, none⟩) n c) ∧ w'.cell? ⟨w.heap.size, 6, none⟩ = some (.int .i64 paid) ∧ w'.cell? ⟨w.heap.size, 7, none⟩ = some (.int .i64 refunded) ∧ w'.cell? ⟨w.heap.size, 8, none⟩ = some (.int .i64 events) ∧ w'.cell? ⟨w.heap.size, 9, none⟩ = some (.int .i64 refused) ∧ w'.cell? ⟨w.heap.size, 10, none⟩ = some (.int .i64 stamp) ∧ w'.cell? ⟨w.heap.size, 11, none⟩ = some (.string who) ∧ w'.cell? ⟨w.heap.size + 1, 0, none⟩ = some (.int .i64 ek) ∧ w'.cell? ⟨w.heap.size + 1, 1, none⟩ = some (.int .i64 eo) ∧ w'.cell? ⟨w.heap.size + 1, 2, none⟩ = some (.int .i64 ei) ∧ w'.cell? ⟨w.heap.size + 1, 3, none⟩ = some (.int .i64 eq) ∧ w'.cell? ⟨w.heap.size + 1, 4, none⟩ = some (.int .i64 ep) ∧ w'.cell? ⟨w.heap.size + 1, 5, none⟩ = some (.int .i64 ec) ∧ w'.cell? ⟨w.heap.size + 1, 6, none⟩ = some (.int .i64 et) ∧ w'.cell? ⟨w.heap.size + 1, 7, none⟩ = some (.string ew) ∧ w'.cell? ⟨w.heap.size + 1, 8, none⟩ = some (.int .i64 es) ∧ w'.cell? ⟨w.heap.size + 1, 9, none⟩ = some (.string en))
  (exact HS.out _ exA)
  (first
    | (go_at_call 24; (with_reducible refine (KD.out _ (hr.ext exA)).mono ?_); rintro e w5 ⟨rfl, hx5⟩)))
         (try go_split_ands)
         go_wp2_with fail
         all_goals (go_ret; refine ⟨?_, exA⟩; rw [Hv.out]; clear K1 K2 K3 K4 KD HS; (first | (simp only [beq_iff_eq, beq_eq_false_iff_ne, ne_eq, bne_iff_ne, bne_eq_false_iff_eq] at *) | skip); first | rfl | (simp [*, beq_dec]; done) | (simp [*, beq_dec]; omega) | (simp [*, beq_dec]; split <;> omega) | (simp [*, beq_dec]; split <;> split <;> omega)))
      | fail
set_option maxRecDepth 100000 in
set_option maxHeartbeats 8000000 in
theorem rjudge_yes_2 (s : St) (e : Ev) (A : Option Addr) (c : Nat) (w : World) (hr : LsRd w A s.lines) (hw : s.who.size ≤ 4611686018427387904) (hw2 : e.who.size ≤ 4611686018427387904) (hw3 : e.note.size ≤ 4611686018427387904) (hB : validB s = true) (hC : check5 e = 0) (hev : s.events ≠ 1099511627776) (hor : e.order = s.order) (hU : useB s e.kind = true) (ht : thereB e.item s.lines = true) (hkk : e.kind = 2) :
    Calls Try.prog 25 #[.agg (stcells s A c), .agg (evcells e)] w fun e' w' => e' = .returned (.int .i64 (amt s e)) ∧ Ext w w' := by
  have hv := valid_iff.1 hB
  have he := event_iff.1 hC
  have hlen := hv.len
  have K1 := Lib.hid fun W (h : LsRd W A s.lines) => rvalid_any s A c W h (by omega) hw
  have K2 := Lib.hid fun W => rcheck5_any e W hw2 hw3
  have K3 := Lib.hid fun W (h : LsRd W A s.lines) => ruse_any s e.kind A c W h (fun l hl => (lnB_iff.1 (rises_mem hv.rises l hl).1).2.2.2.1) (by omega)
  have K4 := Lib.hid fun W (h : LsRd W A s.lines) => rat_any s e.item A c W h hv.rises (by omega)
  have KD := Lib.hid fun W (h : LsRd W A s.lines) => rdue_any s A c W h (fun l hl => (rises_mem hv.rises l hl).1) hv.len hv.tax
  obtain ⟨hP, hline⟩ := line_there hv.rises ht
  obtain ⟨b, o, rfl, hc⟩ := ls_at hr hP
  have Hl := (lnB_iff.1 (rises_mem hv.rises _ (List.getElem_mem hP)).1).2
  obtain ⟨l, hl⟩ : ∃ l, l = s.lines[posOf e.item s.lines]'hP := ⟨_, rfl⟩
  rw [← hl] at Hl hline hc
  clear hl
  have Hv : Hid (amt s e = if ((e.kind = 2 ∨ e.kind = 6 ∨ e.kind = 4) ∧ e.qty = 0) ∨ ((e.kind = 3 ∨ e.kind = 7) ∧ e.price = 0) then 6
    else if e.kind = 2 ∧ l.price ≠ e.price then 8
      else if (e.kind = 2 ∧ 100000 < l.qty + e.qty) ∨ (e.kind = 6 ∧ l.qty < e.qty) ∨ (e.kind = 4 ∧ l.qty - l.shipped < e.qty) then 10
      else if (e.kind = 3 ∧ due s < s.paid + e.price) ∨ (e.kind = 7 ∧ s.paid < s.refunded + e.price) then 10 else 0) := Lib.hid (by unfold amt; rw [hline])
  have hb := net_bound fun l hl => (rises_mem hv.rises l hl).1
  have hx := tax_bound hb.1 hv.tax.1 hv.tax.2
  have hdu : due s = net s.lines + taxOf (net s.lines) s.tax := rfl
  have hp := hv.paid
  have hrf := hv.refunded
  have hpr := he.price
  have hqt := he.qty
  have hk := he.kind
  have hD : 0 ≤ s.paid ∧ s.paid ≤ 320000000000000 := by omega
  clear hb hx hdu hp
  rw [hB] at K1
  rw [hC] at K2
  rw [hU] at K3
  rw [atI_yes ht] at K4
  have hst : (e.kind = 1 ∧ s.status = 0) ∨ (e.kind ≠ 1 ∧ s.status ≠ 0) := by
    have h := hU
    unfold useB at h
    repeat' split at h
    all_goals (simp only [decide_eq_true_eq, Bool.or_eq_true, Bool.and_eq_true] at h; omega)
  generalize posOf e.item s.lines = P at *
  generalize due s = D at *
  generalize amt s e = R at *
  clear hv he ht hB hC hU hline
  obtain ⟨order, status, prior, cur, tax, ls, paid, refunded, events, refused, stamp, who⟩ := s
  obtain ⟨ek, eo, ei, eq, ep, ec, et, ew, es, en⟩ := e
  obtain ⟨li, lp, lq, lsh⟩ := l
  unfold stcells evcells at *
  unfold lncells at hc
  dsimp only at *
  have o1 : (eo != order) = false := by simp; exact hor
  clear hor
  have Hc := Lib.hid hc
  clear hc
  obtain ⟨hl1, hl2, hl3⟩ := Hl
  generalize ls.length = n at *
  have hw1 : IntKind.i64.wrap (paid + ep) = paid + ep := by rw [IntKind.wrap_i64]; omega
  have hw4 : IntKind.i64.wrap (refunded + ep) = refunded + ep := by rw [IntKind.wrap_i64]; omega
  have hv1 : (events == 1099511627776) = false := by simp; exact hev
  clear hev
  have hw2 : IntKind.i64.wrap (lq + eq) = lq + eq := by rw [IntKind.wrap_i64]; omega
  have hw3 : IntKind.i64.wrap (lq - lsh) = lq - lsh := by rw [IntKind.wrap_i64]; omega
  have hwP : IntKind.i64.wrap (P : Int) = (P : Int) := by rw [IntKind.wrap_i64]; omega
  have hPn : (P : Int) < (n : Int) := by omega
  have hP0 : (0 : Int) ≤ (P : Int) := by omega
  have HS := Lib.hid (fun w' (h : Ext ((w.alloc (.cells #[.int .i64 order, .int .i64 status, .int .i64 prior, .int .i64 cur, .int .i64 tax, .slice (some ⟨b, o, none⟩) n c, .int .i64 paid, .int .i64 refunded, .int .i64 events, .int .i64 refused, .int .i64 stamp, .string who] 25)).alloc (.cells #[.int .i64 ek, .int .i64 eo, .int .i64 ei, .int .i64 eq, .int .i64 ep, .int .i64 ec, .int .i64 et, .string ew, .int .i64 es, .string en] 28)) w') => (⟨h, (Ext.blk h (BlkA (BlkN rfl))).cell 0, (Ext.blk h (BlkA (BlkN rfl))).cell 1, (Ext.blk h (BlkA (BlkN rfl))).cell 2, (Ext.blk h (BlkA (BlkN rfl))).cell 3, (Ext.blk h (BlkA (BlkN rfl))).cell 4, (Ext.blk h (BlkA (BlkN rfl))).cell 5, (Ext.blk h (BlkA (BlkN rfl))).cell 6, (Ext.blk h (BlkA (BlkN rfl))).cell 7, (Ext.blk h (BlkA (BlkN rfl))).cell 8, (Ext.blk h (BlkA (BlkN rfl))).cell 9, (Ext.blk h (BlkA (BlkN rfl))).cell 10, (Ext.blk h (BlkA (BlkN rfl))).cell 11, (Ext.blk h (BlkN (by simp))).cell 0, (Ext.blk h (BlkN (by simp))).cell 1, (Ext.blk h (BlkN (by simp))).cell 2, (Ext.blk h (BlkN (by simp))).cell 3, (Ext.blk h (BlkN (by simp))).cell 4, (Ext.blk h (BlkN (by simp))).cell 5, (Ext.blk h (BlkN (by simp))).cell 6, (Ext.blk h (BlkN (by simp))).cell 7, (Ext.blk h (BlkN (by simp))).cell 8, (Ext.blk h (BlkN (by simp))).cell 9⟩ : (fun w' : World => Ext ((w.alloc (.cells #[.int .i64 order, .int .i64 status, .int .i64 prior, .int .i64 cur, .int .i64 tax, .slice (some ⟨b, o, none⟩) n c, .int .i64 paid, .int .i64 refunded, .int .i64 events, .int .i64 refused, .int .i64 stamp, .string who] 25)).alloc (.cells #[.int .i64 ek, .int .i64 eo, .int .i64 ei, .int .i64 eq, .int .i64 ep, .int .i64 ec, .int .i64 et, .string ew, .int .i64 es, .string en] 28)) w' ∧ w'.cell? ⟨w.heap.size, 0, none⟩ = some (.int .i64 order) ∧ w'.cell? ⟨w.heap.size, 1, none⟩ = some (.int .i64 status) ∧ w'.cell? ⟨w.heap.size, 2, none⟩ = some (.int .i64 prior) ∧ w'.cell? ⟨w.heap.size, 3, none⟩ = some (.int .i64 cur) ∧ w'.cell? ⟨w.heap.size, 4, none⟩ = some (.int .i64 tax) ∧ w'.cell? ⟨w.heap.size, 5, none⟩ = some (.slice (some ⟨b, o, none⟩) n c) ∧ w'.cell? ⟨w.heap.size, 6, none⟩ = some (.int .i64 paid) ∧ w'.cell? ⟨w.heap.size, 7, none⟩ = some (.int .i64 refunded) ∧ w'.cell? ⟨w.heap.size, 8, none⟩ = some (.int .i64 events) ∧ w'.cell? ⟨w.heap.size, 9, none⟩ = some (.int .i64 refused) ∧ w'.cell? ⟨w.heap.size, 10, none⟩ = some (.int .i64 stamp) ∧ w'.cell? ⟨w.heap.size, 11, none⟩ = some (.string who) ∧ w'.cell? ⟨w.heap.size + 1, 0, none⟩ = some (.int .i64 ek) ∧ w'.cell? ⟨w.heap.size + 1, 1, none⟩ = some (.int .i64 eo) ∧ w'.cell? ⟨w.heap.size + 1, 2, none⟩ = some (.int .i64 ei) ∧ w'.cell? ⟨w.heap.size + 1, 3, none⟩ = some (.int .i64 eq) ∧ w'.cell? ⟨w.heap.size + 1, 4, none⟩ = some (.int .i64 ep) ∧ w'.cell? ⟨w.heap.size + 1, 5, none⟩ = some (.int .i64 ec) ∧ w'.cell? ⟨w.heap.size + 1, 6, none⟩ = some (.int .i64 et) ∧ w'.cell? ⟨w.heap.size + 1, 7, none⟩ = some (.string ew) ∧ w'.cell? ⟨w.heap.size + 1, 8, none⟩ = some (.int .i64 es) ∧ w'.cell? ⟨w.heap.size + 1, 9, none⟩ = some (.string en)) w'))
  have hs1 : status ≠ 0 := by omega
  have s1 : (status == 0) = false := by simp; exact hs1
  have s2 : (status != 0) = true := by simp; exact hs1
  have e1 : (ek == 1) = false := by simp; omega
  have e2 : (ek == 2) = true := by simp; omega
  have e3 : (ek == 3) = false := by simp; omega
  have e4 : (ek == 4) = false := by simp; omega
  have e6 : (ek == 6) = false := by simp; omega
  have e7 : (ek == 7) = false := by simp; omega
  clear hkk hst hs1
  refine (Classical.em (100000 < lq + eq)).elim ?aa ?bb
  case' aa => intro hgt
  case' bb =>
    intro hgt
    have hgf : decide (100000 < lq + eq) = false := decide_eq_false hgt
  all_goals
    go_enter Try.func25, Try.ntmps25
    go_wp2_with (first
      | (go_at_call 16; (with_reducible refine (K1.out _ (hr.ext exA)).mono ?_); rintro e w1 ⟨rfl, hx1⟩; have h3 := HS.out w1 exA; go_split_ands)
      | (go_at_call 19; (with_reducible refine (K2.out _).mono ?_); rintro e w2 ⟨r, rfl, hr0, hx2⟩; obtain rfl : r = 0 := hr0.2 (by trivial); have h3 := HS.out w2 exA; go_split_ands)
      | (go_at_call 17; (with_reducible refine (K3.out _ (hr.ext exA)).mono ?_); rintro e w3 ⟨rfl, hx3⟩; have h3 := HS.out w3 exA; go_split_ands)
      | (go_at_call 45; (with_reducible refine (K4.out _ (hr.ext exA)).mono ?_); rintro e w4 ⟨rfl, hx4⟩; have h3 := HS.out w4 exA; go_split_ands; have y1 : Ext w w4 := exA; have r1 := range_ext Hc.out y1; have d1 : w4.cell? ⟨b, o + P * 4 + 1, none⟩ = some (.int .i64 lp) := r1 1 _ rfl; have d2 : w4.cell? ⟨b, o + P * 4 + 2, none⟩ = some (.int .i64 lq) := r1 2 _ rfl; have d3 : w4.cell? ⟨b, o + P * 4 + 3, none⟩ = some (.int .i64 lsh) := r1 3 _ rfl; clear r1))
    all_goals try (go_ret; refine ⟨?_, exA⟩; rw [Hv.out]; clear K1 K2 K3 K4 KD HS; (first | (simp only [beq_iff_eq, beq_eq_false_iff_ne, ne_eq, bne_iff_ne, bne_eq_false_iff_eq] at *) | skip); first | rfl | (simp [*, beq_dec]; done) | (simp [*, beq_dec]; omega) | (simp [*, beq_dec]; split <;> omega) | (simp [*, beq_dec]; split <;> split <;> omega))
    all_goals
      go_quiet (fail)
      go_wp2_with fail
      all_goals try (go_ret; refine ⟨?_, exA⟩; rw [Hv.out]; clear K1 K2 K3 K4 KD HS; (first | (simp only [beq_iff_eq, beq_eq_false_iff_ne, ne_eq, bne_iff_ne, bne_eq_false_iff_eq] at *) | skip); first | rfl | (simp [*, beq_dec]; done) | (simp [*, beq_dec]; omega) | (simp [*, beq_dec]; split <;> omega) | (simp [*, beq_dec]; split <;> split <;> omega))
    all_goals
      go_quiet (fail)
      go_wp2_with fail
      all_goals try (go_ret; refine ⟨?_, exA⟩; rw [Hv.out]; clear K1 K2 K3 K4 KD HS; (first | (simp only [beq_iff_eq, beq_eq_false_iff_ne, ne_eq, bne_iff_ne, bne_eq_false_iff_eq] at *) | skip); first | rfl | (simp [*, beq_dec]; done) | (simp [*, beq_dec]; omega) | (simp [*, beq_dec]; split <;> omega) | (simp [*, beq_dec]; split <;> split <;> omega))
    all_goals first
      | (go_quiet (fail)
         go_wp2_with fail
         all_goals (go_ret; refine ⟨?_, exA⟩; rw [Hv.out]; clear K1 K2 K3 K4 KD HS; (first | (simp only [beq_iff_eq, beq_eq_false_iff_ne, ne_eq, bne_iff_ne, bne_eq_false_iff_eq] at *) | skip); first | rfl | (simp [*, beq_dec]; done) | (simp [*, beq_dec]; omega) | (simp [*, beq_dec]; split <;> omega) | (simp [*, beq_dec]; split <;> split <;> omega)))
      | ((go_region_held3 (fun w' : World => Ext ((w.alloc (.cells #[.int .i64 order, .int .i64 status, .int .i64 prior, .int .i64 cur, .int .i64 tax, .slice (some ⟨b, o, none⟩) n c, .int .i64 paid, .int .i64 refunded, .int .i64 events, .int .i64 refused, .int .i64 stamp, .string who] 25)).alloc (.cells #[.int .i64 ek, .int .i64 eo, .int .i64 ei, .int .i64 eq, .int .i64 ep, .int .i64 ec, .int .i64 et, .string ew, .int .i64 es, .string en] 28)) w' ∧ w'.cell? ⟨w.heap.size, 0, none⟩ = some (.int .i64 order) ∧ w'.cell? ⟨w.heap.size, 1, none⟩ = some (.int .i64 status) ∧ w'.cell? ⟨w.heap.size, 2, none⟩ = some (.int .i64 prior) ∧ w'.cell? ⟨w.heap.size, 3, none⟩ = some (.int .i64 cur) ∧ w'.cell? ⟨w.heap.size, 4, none⟩ = some (.int .i64 tax) ∧ w'.cell? ⟨w.heap.size, 5, none⟩ = some (.slice (some ⟨b, o, none⟩) n c) ∧ w'.cell? ⟨w.heap.size, 6, none⟩ = some (.int .i64 paid) ∧ w'.cell? ⟨w.heap.size, 7, none⟩ = some (.int .i64 refunded) ∧ w'.cell? ⟨w.heap.size, 8, none⟩ = some (.int .i64 events) ∧ w'.cell? ⟨w.heap.size, 9, none⟩ = some (.int .i64 refused) ∧ w'.cell? ⟨w.heap.size, 10, none⟩ = some (.int .i64 stamp) ∧ w'.cell? ⟨w.heap.size, 11, none⟩ = some (.string who) ∧ w'.cell? ⟨w.heap.size + 1, 0, none⟩ = some (.int .i64 ek) ∧ w'.cell? ⟨w.heap.size + 1, 1, none⟩ = some (.int .i64 eo) ∧ w'.cell? ⟨w.heap.size + 1, 2, none⟩ = some (.int .i64 ei) ∧ w'.cell? ⟨w.heap.size + 1, 3, none⟩ = some (.int .i64 eq) ∧ w'.cell? ⟨w.heap.size + 1, 4, none⟩ = some (.int .i64 ep) ∧ w'.cell? ⟨w.heap.size + 1, 5, none⟩ = some (.int .i64 ec) ∧ w'.cell? ⟨w.heap.size + 1, 6, none⟩ = some (.int .i64 et) ∧ w'.cell? ⟨w.heap.size + 1, 7, none⟩ = some (.string ew) ∧ w'.cell? ⟨w.heap.size + 1, 8, none⟩ = some (.int .i64 es) ∧ w'.cell? ⟨w.heap.size + 1, 9, none⟩ = some (.string en))
  (exact HS.out _ exA)
  (first
    | (go_at_call 24; (with_reducible refine (KD.out _ (hr.ext exA)).mono ?_); rintro e w5 ⟨rfl, hx5⟩)))
         (try go_split_ands)
         go_wp2_with fail
         all_goals (go_ret; refine ⟨?_, exA⟩; rw [Hv.out]; clear K1 K2 K3 K4 KD HS; (first | (simp only [beq_iff_eq, beq_eq_false_iff_ne, ne_eq, bne_iff_ne, bne_eq_false_iff_eq] at *) | skip); first | rfl | (simp [*, beq_dec]; done) | (simp [*, beq_dec]; omega) | (simp [*, beq_dec]; split <;> omega) | (simp [*, beq_dec]; split <;> split <;> omega)))
      | fail
set_option maxRecDepth 100000 in
set_option maxHeartbeats 8000000 in
theorem rjudge_yes_3 (s : St) (e : Ev) (A : Option Addr) (c : Nat) (w : World) (hr : LsRd w A s.lines) (hw : s.who.size ≤ 4611686018427387904) (hw2 : e.who.size ≤ 4611686018427387904) (hw3 : e.note.size ≤ 4611686018427387904) (hB : validB s = true) (hC : check5 e = 0) (hev : s.events ≠ 1099511627776) (hor : e.order = s.order) (hU : useB s e.kind = true) (ht : thereB e.item s.lines = true) (hkk : e.kind = 3) :
    Calls Try.prog 25 #[.agg (stcells s A c), .agg (evcells e)] w fun e' w' => e' = .returned (.int .i64 (amt s e)) ∧ Ext w w' := by
  have hv := valid_iff.1 hB
  have he := event_iff.1 hC
  have hlen := hv.len
  have K1 := Lib.hid fun W (h : LsRd W A s.lines) => rvalid_any s A c W h (by omega) hw
  have K2 := Lib.hid fun W => rcheck5_any e W hw2 hw3
  have K3 := Lib.hid fun W (h : LsRd W A s.lines) => ruse_any s e.kind A c W h (fun l hl => (lnB_iff.1 (rises_mem hv.rises l hl).1).2.2.2.1) (by omega)
  have K4 := Lib.hid fun W (h : LsRd W A s.lines) => rat_any s e.item A c W h hv.rises (by omega)
  have KD := Lib.hid fun W (h : LsRd W A s.lines) => rdue_any s A c W h (fun l hl => (rises_mem hv.rises l hl).1) hv.len hv.tax
  obtain ⟨hP, hline⟩ := line_there hv.rises ht
  obtain ⟨b, o, rfl, hc⟩ := ls_at hr hP
  have Hl := (lnB_iff.1 (rises_mem hv.rises _ (List.getElem_mem hP)).1).2
  obtain ⟨l, hl⟩ : ∃ l, l = s.lines[posOf e.item s.lines]'hP := ⟨_, rfl⟩
  rw [← hl] at Hl hline hc
  clear hl
  have Hv : Hid (amt s e = if ((e.kind = 2 ∨ e.kind = 6 ∨ e.kind = 4) ∧ e.qty = 0) ∨ ((e.kind = 3 ∨ e.kind = 7) ∧ e.price = 0) then 6
    else if e.kind = 2 ∧ l.price ≠ e.price then 8
      else if (e.kind = 2 ∧ 100000 < l.qty + e.qty) ∨ (e.kind = 6 ∧ l.qty < e.qty) ∨ (e.kind = 4 ∧ l.qty - l.shipped < e.qty) then 10
      else if (e.kind = 3 ∧ due s < s.paid + e.price) ∨ (e.kind = 7 ∧ s.paid < s.refunded + e.price) then 10 else 0) := Lib.hid (by unfold amt; rw [hline])
  have hb := net_bound fun l hl => (rises_mem hv.rises l hl).1
  have hx := tax_bound hb.1 hv.tax.1 hv.tax.2
  have hdu : due s = net s.lines + taxOf (net s.lines) s.tax := rfl
  have hp := hv.paid
  have hrf := hv.refunded
  have hpr := he.price
  have hqt := he.qty
  have hk := he.kind
  have hD : 0 ≤ s.paid ∧ s.paid ≤ 320000000000000 := by omega
  clear hb hx hdu hp
  rw [hB] at K1
  rw [hC] at K2
  rw [hU] at K3
  rw [atI_yes ht] at K4
  have hst : (e.kind = 1 ∧ s.status = 0) ∨ (e.kind ≠ 1 ∧ s.status ≠ 0) := by
    have h := hU
    unfold useB at h
    repeat' split at h
    all_goals (simp only [decide_eq_true_eq, Bool.or_eq_true, Bool.and_eq_true] at h; omega)
  generalize posOf e.item s.lines = P at *
  generalize due s = D at *
  generalize amt s e = R at *
  clear hv he ht hB hC hU hline
  obtain ⟨order, status, prior, cur, tax, ls, paid, refunded, events, refused, stamp, who⟩ := s
  obtain ⟨ek, eo, ei, eq, ep, ec, et, ew, es, en⟩ := e
  obtain ⟨li, lp, lq, lsh⟩ := l
  unfold stcells evcells at *
  unfold lncells at hc
  dsimp only at *
  have o1 : (eo != order) = false := by simp; exact hor
  clear hor
  have Hc := Lib.hid hc
  clear hc
  obtain ⟨hl1, hl2, hl3⟩ := Hl
  generalize ls.length = n at *
  have hw1 : IntKind.i64.wrap (paid + ep) = paid + ep := by rw [IntKind.wrap_i64]; omega
  have hw4 : IntKind.i64.wrap (refunded + ep) = refunded + ep := by rw [IntKind.wrap_i64]; omega
  have hv1 : (events == 1099511627776) = false := by simp; exact hev
  clear hev
  have hw2 : IntKind.i64.wrap (lq + eq) = lq + eq := by rw [IntKind.wrap_i64]; omega
  have hw3 : IntKind.i64.wrap (lq - lsh) = lq - lsh := by rw [IntKind.wrap_i64]; omega
  have hwP : IntKind.i64.wrap (P : Int) = (P : Int) := by rw [IntKind.wrap_i64]; omega
  have hPn : (P : Int) < (n : Int) := by omega
  have hP0 : (0 : Int) ≤ (P : Int) := by omega
  have HS := Lib.hid (fun w' (h : Ext ((w.alloc (.cells #[.int .i64 order, .int .i64 status, .int .i64 prior, .int .i64 cur, .int .i64 tax, .slice (some ⟨b, o, none⟩) n c, .int .i64 paid, .int .i64 refunded, .int .i64 events, .int .i64 refused, .int .i64 stamp, .string who] 25)).alloc (.cells #[.int .i64 ek, .int .i64 eo, .int .i64 ei, .int .i64 eq, .int .i64 ep, .int .i64 ec, .int .i64 et, .string ew, .int .i64 es, .string en] 28)) w') => (⟨h, (Ext.blk h (BlkA (BlkN rfl))).cell 0, (Ext.blk h (BlkA (BlkN rfl))).cell 1, (Ext.blk h (BlkA (BlkN rfl))).cell 2, (Ext.blk h (BlkA (BlkN rfl))).cell 3, (Ext.blk h (BlkA (BlkN rfl))).cell 4, (Ext.blk h (BlkA (BlkN rfl))).cell 5, (Ext.blk h (BlkA (BlkN rfl))).cell 6, (Ext.blk h (BlkA (BlkN rfl))).cell 7, (Ext.blk h (BlkA (BlkN rfl))).cell 8, (Ext.blk h (BlkA (BlkN rfl))).cell 9, (Ext.blk h (BlkA (BlkN rfl))).cell 10, (Ext.blk h (BlkA (BlkN rfl))).cell 11, (Ext.blk h (BlkN (by simp))).cell 0, (Ext.blk h (BlkN (by simp))).cell 1, (Ext.blk h (BlkN (by simp))).cell 2, (Ext.blk h (BlkN (by simp))).cell 3, (Ext.blk h (BlkN (by simp))).cell 4, (Ext.blk h (BlkN (by simp))).cell 5, (Ext.blk h (BlkN (by simp))).cell 6, (Ext.blk h (BlkN (by simp))).cell 7, (Ext.blk h (BlkN (by simp))).cell 8, (Ext.blk h (BlkN (by simp))).cell 9⟩ : (fun w' : World => Ext ((w.alloc (.cells #[.int .i64 order, .int .i64 status, .int .i64 prior, .int .i64 cur, .int .i64 tax, .slice (some ⟨b, o, none⟩) n c, .int .i64 paid, .int .i64 refunded, .int .i64 events, .int .i64 refused, .int .i64 stamp, .string who] 25)).alloc (.cells #[.int .i64 ek, .int .i64 eo, .int .i64 ei, .int .i64 eq, .int .i64 ep, .int .i64 ec, .int .i64 et, .string ew, .int .i64 es, .string en] 28)) w' ∧ w'.cell? ⟨w.heap.size, 0, none⟩ = some (.int .i64 order) ∧ w'.cell? ⟨w.heap.size, 1, none⟩ = some (.int .i64 status) ∧ w'.cell? ⟨w.heap.size, 2, none⟩ = some (.int .i64 prior) ∧ w'.cell? ⟨w.heap.size, 3, none⟩ = some (.int .i64 cur) ∧ w'.cell? ⟨w.heap.size, 4, none⟩ = some (.int .i64 tax) ∧ w'.cell? ⟨w.heap.size, 5, none⟩ = some (.slice (some ⟨b, o, none⟩) n c) ∧ w'.cell? ⟨w.heap.size, 6, none⟩ = some (.int .i64 paid) ∧ w'.cell? ⟨w.heap.size, 7, none⟩ = some (.int .i64 refunded) ∧ w'.cell? ⟨w.heap.size, 8, none⟩ = some (.int .i64 events) ∧ w'.cell? ⟨w.heap.size, 9, none⟩ = some (.int .i64 refused) ∧ w'.cell? ⟨w.heap.size, 10, none⟩ = some (.int .i64 stamp) ∧ w'.cell? ⟨w.heap.size, 11, none⟩ = some (.string who) ∧ w'.cell? ⟨w.heap.size + 1, 0, none⟩ = some (.int .i64 ek) ∧ w'.cell? ⟨w.heap.size + 1, 1, none⟩ = some (.int .i64 eo) ∧ w'.cell? ⟨w.heap.size + 1, 2, none⟩ = some (.int .i64 ei) ∧ w'.cell? ⟨w.heap.size + 1, 3, none⟩ = some (.int .i64 eq) ∧ w'.cell? ⟨w.heap.size + 1, 4, none⟩ = some (.int .i64 ep) ∧ w'.cell? ⟨w.heap.size + 1, 5, none⟩ = some (.int .i64 ec) ∧ w'.cell? ⟨w.heap.size + 1, 6, none⟩ = some (.int .i64 et) ∧ w'.cell? ⟨w.heap.size + 1, 7, none⟩ = some (.string ew) ∧ w'.cell? ⟨w.heap.size + 1, 8, none⟩ = some (.int .i64 es) ∧ w'.cell? ⟨w.heap.size + 1, 9, none⟩ = some (.string en)) w'))
  have hs1 : status ≠ 0 := by omega
  have s1 : (status == 0) = false := by simp; exact hs1
  have s2 : (status != 0) = true := by simp; exact hs1
  have e1 : (ek == 1) = false := by simp; omega
  have e2 : (ek == 2) = false := by simp; omega
  have e3 : (ek == 3) = true := by simp; omega
  have e4 : (ek == 4) = false := by simp; omega
  have e6 : (ek == 6) = false := by simp; omega
  have e7 : (ek == 7) = false := by simp; omega
  clear hkk hst hs1
  by_cases hgt : D < paid + ep
  · skip
    go_enter Try.func25, Try.ntmps25
    go_wp2_with (first
      | (go_at_call 16; (with_reducible refine (K1.out _ (hr.ext exA)).mono ?_); rintro e w1 ⟨rfl, hx1⟩; have h3 := HS.out w1 exA; go_split_ands)
      | (go_at_call 19; (with_reducible refine (K2.out _).mono ?_); rintro e w2 ⟨r, rfl, hr0, hx2⟩; obtain rfl : r = 0 := hr0.2 (by trivial); have h3 := HS.out w2 exA; go_split_ands)
      | (go_at_call 17; (with_reducible refine (K3.out _ (hr.ext exA)).mono ?_); rintro e w3 ⟨rfl, hx3⟩; have h3 := HS.out w3 exA; go_split_ands)
      | (go_at_call 45; (with_reducible refine (K4.out _ (hr.ext exA)).mono ?_); rintro e w4 ⟨rfl, hx4⟩; have h3 := HS.out w4 exA; go_split_ands; have y1 : Ext w w4 := exA; have r1 := range_ext Hc.out y1; have d1 : w4.cell? ⟨b, o + P * 4 + 1, none⟩ = some (.int .i64 lp) := r1 1 _ rfl; have d2 : w4.cell? ⟨b, o + P * 4 + 2, none⟩ = some (.int .i64 lq) := r1 2 _ rfl; have d3 : w4.cell? ⟨b, o + P * 4 + 3, none⟩ = some (.int .i64 lsh) := r1 3 _ rfl; clear r1))
    all_goals try (go_ret; refine ⟨?_, exA⟩; rw [Hv.out]; clear K1 K2 K3 K4 KD HS; (first | (simp only [beq_iff_eq, beq_eq_false_iff_ne, ne_eq, bne_iff_ne, bne_eq_false_iff_eq] at *) | skip); first | rfl | (simp [*, beq_dec]; done) | (simp [*, beq_dec]; omega) | (simp [*, beq_dec]; split <;> omega) | (simp [*, beq_dec]; split <;> split <;> omega))
    all_goals
      go_quiet (fail)
      go_wp2_with fail
      all_goals try (go_ret; refine ⟨?_, exA⟩; rw [Hv.out]; clear K1 K2 K3 K4 KD HS; (first | (simp only [beq_iff_eq, beq_eq_false_iff_ne, ne_eq, bne_iff_ne, bne_eq_false_iff_eq] at *) | skip); first | rfl | (simp [*, beq_dec]; done) | (simp [*, beq_dec]; omega) | (simp [*, beq_dec]; split <;> omega) | (simp [*, beq_dec]; split <;> split <;> omega))
    all_goals
      go_quiet (fail)
      go_wp2_with fail
      all_goals try (go_ret; refine ⟨?_, exA⟩; rw [Hv.out]; clear K1 K2 K3 K4 KD HS; (first | (simp only [beq_iff_eq, beq_eq_false_iff_ne, ne_eq, bne_iff_ne, bne_eq_false_iff_eq] at *) | skip); first | rfl | (simp [*, beq_dec]; done) | (simp [*, beq_dec]; omega) | (simp [*, beq_dec]; split <;> omega) | (simp [*, beq_dec]; split <;> split <;> omega))
    all_goals first
      | (go_quiet (fail)
         go_wp2_with fail
         all_goals (go_ret; refine ⟨?_, exA⟩; rw [Hv.out]; clear K1 K2 K3 K4 KD HS; (first | (simp only [beq_iff_eq, beq_eq_false_iff_ne, ne_eq, bne_iff_ne, bne_eq_false_iff_eq] at *) | skip); first | rfl | (simp [*, beq_dec]; done) | (simp [*, beq_dec]; omega) | (simp [*, beq_dec]; split <;> omega) | (simp [*, beq_dec]; split <;> split <;> omega)))
      | ((refine wp_region_held_drew (S := (fun w' : World => Ext ((w.alloc (.cells #[.int .i64 order, .int .i64 status, .int .i64 prior, .int .i64 cur, .int .i64 tax, .slice (some ⟨b, o, none⟩) n c, .int .i64 paid, .int .i64 refunded, .int .i64 events, .int .i64 refused, .int .i64 stamp, .string who] 25)).alloc (.cells #[.int .i64 ek, .int .i64 eo, .int .i64 ei, .int .i64 eq, .int .i64 ep, .int .i64 ec, .int .i64 et, .string ew, .int .i64 es, .string en] 28)) w' ∧ w'.cell? ⟨w.heap.size, 0, none⟩ = some (.int .i64 order) ∧ w'.cell? ⟨w.heap.size, 1, none⟩ = some (.int .i64 status) ∧ w'.cell? ⟨w.heap.size, 2, none⟩ = some (.int .i64 prior) ∧ w'.cell? ⟨w.heap.size, 3, none⟩ = some (.int .i64 cur) ∧ w'.cell? ⟨w.heap.size, 4, none⟩ = some (.int .i64 tax) ∧ w'.cell? ⟨w.heap.size, 5, none⟩ = some (.slice (some ⟨b, o, none⟩) n c) ∧ w'.cell? ⟨w.heap.size, 6, none⟩ = some (.int .i64 paid) ∧ w'.cell? ⟨w.heap.size, 7, none⟩ = some (.int .i64 refunded) ∧ w'.cell? ⟨w.heap.size, 8, none⟩ = some (.int .i64 events) ∧ w'.cell? ⟨w.heap.size, 9, none⟩ = some (.int .i64 refused) ∧ w'.cell? ⟨w.heap.size, 10, none⟩ = some (.int .i64 stamp) ∧ w'.cell? ⟨w.heap.size, 11, none⟩ = some (.string who) ∧ w'.cell? ⟨w.heap.size + 1, 0, none⟩ = some (.int .i64 ek) ∧ w'.cell? ⟨w.heap.size + 1, 1, none⟩ = some (.int .i64 eo) ∧ w'.cell? ⟨w.heap.size + 1, 2, none⟩ = some (.int .i64 ei) ∧ w'.cell? ⟨w.heap.size + 1, 3, none⟩ = some (.int .i64 eq) ∧ w'.cell? ⟨w.heap.size + 1, 4, none⟩ = some (.int .i64 ep) ∧ w'.cell? ⟨w.heap.size + 1, 5, none⟩ = some (.int .i64 ec) ∧ w'.cell? ⟨w.heap.size + 1, 6, none⟩ = some (.int .i64 et) ∧ w'.cell? ⟨w.heap.size + 1, 7, none⟩ = some (.string ew) ∧ w'.cell? ⟨w.heap.size + 1, 8, none⟩ = some (.int .i64 es) ∧ w'.cell? ⟨w.heap.size + 1, 9, none⟩ = some (.string en))) (by kernel_rfl) (HS.out _ exA) (fun hS => ?_); (refine takeD (some 187) (i := 0) (v := ?_) rfl rfl (by kernel_rfl) (by kernel_rfl) (by kernel_rfl) (fun _ _ _ h => h) (Or.inl ⟨by kernel_rfl, ?_⟩) hS ?_; rotate_left; focus ((intro w' hSw; (try dsimp only at hSw); go_simp) <;> with_reducible rfl); (try simp only [Act.put, List.setIfInBounds_toArray, List.set_cons_zero, List.set_cons_succ])); (refine takeD (some 188) (i := 1) (v := ?_) rfl rfl (by kernel_rfl) (by kernel_rfl) (by kernel_rfl) (fun _ _ _ h => h) (Or.inl ⟨by kernel_rfl, ?_⟩) hS ?_; rotate_left; focus ((intro w' hSw; (try dsimp only at hSw); go_simp) <;> with_reducible rfl); (try simp only [Act.put, List.setIfInBounds_toArray, List.set_cons_zero, List.set_cons_succ])); (refine takeD (some 189) (i := 2) (v := ?_) rfl rfl (by kernel_rfl) (by kernel_rfl) (by kernel_rfl) (fun _ _ _ h => h) (Or.inl ⟨by kernel_rfl, ?_⟩) hS ?_; rotate_left; focus ((intro w' hSw; (try dsimp only at hSw); go_simp) <;> with_reducible rfl); (try simp only [Act.put, List.setIfInBounds_toArray, List.set_cons_zero, List.set_cons_succ])); (refine takeD (some 190) (i := 3) (v := ?_) rfl rfl (by kernel_rfl) (by kernel_rfl) (by kernel_rfl) (fun _ _ _ h => h) (Or.inl ⟨by kernel_rfl, ?_⟩) hS ?_; rotate_left; focus ((intro w' hSw; (try dsimp only at hSw); go_simp) <;> with_reducible rfl); (try simp only [Act.put, List.setIfInBounds_toArray, List.set_cons_zero, List.set_cons_succ])); (refine takeD (some 191) (i := 4) (v := ?_) rfl rfl (by kernel_rfl) (by kernel_rfl) (by kernel_rfl) (fun _ _ _ h => h) (Or.inl ⟨by kernel_rfl, ?_⟩) hS ?_; rotate_left; focus ((intro w' hSw; (try dsimp only at hSw); go_simp) <;> with_reducible rfl); (try simp only [Act.put, List.setIfInBounds_toArray, List.set_cons_zero, List.set_cons_succ])); (refine takeD (some 192) (i := 5) (v := ?_) rfl rfl (by kernel_rfl) (by kernel_rfl) (by kernel_rfl) (fun _ _ _ h => h) (Or.inl ⟨by kernel_rfl, ?_⟩) hS ?_; rotate_left; focus ((intro w' hSw; (try dsimp only at hSw); go_simp) <;> with_reducible rfl); (try simp only [Act.put, List.setIfInBounds_toArray, List.set_cons_zero, List.set_cons_succ])); (refine takeD (some 193) (i := 6) (v := ?_) rfl rfl (by kernel_rfl) (by kernel_rfl) (by kernel_rfl) (fun _ _ _ h => h) (Or.inl ⟨by kernel_rfl, ?_⟩) hS ?_; rotate_left; focus ((intro w' hSw; (try dsimp only at hSw); go_simp) <;> with_reducible rfl); (try simp only [Act.put, List.setIfInBounds_toArray, List.set_cons_zero, List.set_cons_succ])); (refine takeD (some 194) (i := 7) (v := ?_) rfl rfl (by kernel_rfl) (by kernel_rfl) (by kernel_rfl) (fun _ _ _ h => h) (Or.inl ⟨by kernel_rfl, ?_⟩) hS ?_; rotate_left; focus ((intro w' hSw; (try dsimp only at hSw); go_simp) <;> with_reducible rfl); (try simp only [Act.put, List.setIfInBounds_toArray, List.set_cons_zero, List.set_cons_succ])); (refine takeD (some 195) (i := 8) (v := ?_) rfl rfl (by kernel_rfl) (by kernel_rfl) (by kernel_rfl) (fun _ _ _ h => h) (Or.inl ⟨by kernel_rfl, ?_⟩) hS ?_; rotate_left; focus ((intro w' hSw; (try dsimp only at hSw); go_simp) <;> with_reducible rfl); (try simp only [Act.put, List.setIfInBounds_toArray, List.set_cons_zero, List.set_cons_succ])); (refine takeD (some 196) (i := 9) (v := ?_) rfl rfl (by kernel_rfl) (by kernel_rfl) (by kernel_rfl) (fun _ _ _ h => h) (Or.inl ⟨by kernel_rfl, ?_⟩) hS ?_; rotate_left; focus ((intro w' hSw; (try dsimp only at hSw); go_simp) <;> with_reducible rfl); (try simp only [Act.put, List.setIfInBounds_toArray, List.set_cons_zero, List.set_cons_succ])); (refine wpAnyH_ready (rs := [10]) (by kernel_rfl) (by simp) (AllReadyH.cons rfl (fun K hK => ?_) AllReadyH.nil); go_simp; go_at_call 24; (with_reducible refine (KD.out _ (hr.ext exA)).mono ?_); rintro e w5 ⟨rfl, hx5⟩; refine hK.out _ _ (HS.out _ exA) (fun hS => ?_); clear hK K; (try simp only [Act.put, List.setIfInBounds_toArray, List.set_cons_zero, List.set_cons_succ])); (refine takeD (some 198) (i := 11) (v := ?_) rfl rfl (by kernel_rfl) (by kernel_rfl) (by kernel_rfl) (fun _ _ _ h => h) (Or.inl ⟨by kernel_rfl, ?_⟩) hS ?_; rotate_left; focus ((intro w' hSw; (try dsimp only at hSw); go_simp) <;> with_reducible rfl); (try simp only [Act.put, List.setIfInBounds_toArray, List.set_cons_zero, List.set_cons_succ])); (refine takeD (some 199) (i := 12) (v := ?_) rfl rfl (by kernel_rfl) (by kernel_rfl) (by kernel_rfl) (fun _ _ _ h => h) (Or.inl ⟨by kernel_rfl, ?_⟩) hS ?_; rotate_left; focus ((intro w' hSw; (try dsimp only at hSw); go_simp) <;> with_reducible rfl); (try simp only [Act.put, List.setIfInBounds_toArray, List.set_cons_zero, List.set_cons_succ])); (refine takeD (some 200) (i := 13) (v := ?_) rfl rfl (by kernel_rfl) (by kernel_rfl) (by kernel_rfl) (fun _ _ _ h => h) (Or.inl ⟨by kernel_rfl, ?_⟩) hS ?_; rotate_left; focus ((intro w' hSw; (try dsimp only at hSw); go_simp) <;> with_reducible rfl); (try simp only [Act.put, List.setIfInBounds_toArray, List.set_cons_zero, List.set_cons_succ])); (refine takeD (some 201) (i := 14) (v := undef) rfl rfl (by kernel_rfl) (by kernel_rfl) (by kernel_rfl) (fun _ _ _ h => h) (Or.inr ⟨by kernel_rfl, rfl⟩) hS ?_; (try simp only [Act.put, List.setIfInBounds_toArray, List.set_cons_zero, List.set_cons_succ])); (refine takeD (some 202) (i := 15) (v := undef) rfl rfl (by kernel_rfl) (by kernel_rfl) (by kernel_rfl) (fun _ _ _ h => h) (Or.inr ⟨by kernel_rfl, rfl⟩) hS ?_; (try simp only [Act.put, List.setIfInBounds_toArray, List.set_cons_zero, List.set_cons_succ])); (refine takeD (some 203) (i := 16) (v := undef) rfl rfl (by kernel_rfl) (by kernel_rfl) (by kernel_rfl) (fun _ _ _ h => h) (Or.inr ⟨by kernel_rfl, rfl⟩) hS ?_; (try simp only [Act.put, List.setIfInBounds_toArray, List.set_cons_zero, List.set_cons_succ])); (refine takeD (some 204) (i := 17) (v := undef) rfl rfl (by kernel_rfl) (by kernel_rfl) (by kernel_rfl) (fun _ _ _ h => h) (Or.inr ⟨by kernel_rfl, rfl⟩) hS ?_; (try simp only [Act.put, List.setIfInBounds_toArray, List.set_cons_zero, List.set_cons_succ])); (refine takeD (some 205) (i := 18) (v := undef) rfl rfl (by kernel_rfl) (by kernel_rfl) (by kernel_rfl) (fun _ _ _ h => h) (Or.inr ⟨by kernel_rfl, rfl⟩) hS ?_; (try simp only [Act.put, List.setIfInBounds_toArray, List.set_cons_zero, List.set_cons_succ])); (refine takeD (some 206) (i := 19) (v := undef) rfl rfl (by kernel_rfl) (by kernel_rfl) (by kernel_rfl) (fun _ _ _ h => h) (Or.inr ⟨by kernel_rfl, rfl⟩) hS ?_; (try simp only [Act.put, List.setIfInBounds_toArray, List.set_cons_zero, List.set_cons_succ])); (refine takeD (some 207) (i := 20) (v := undef) rfl rfl (by kernel_rfl) (by kernel_rfl) (by kernel_rfl) (fun _ _ _ h => h) (Or.inr ⟨by kernel_rfl, rfl⟩) hS ?_; (try simp only [Act.put, List.setIfInBounds_toArray, List.set_cons_zero, List.set_cons_succ])); (refine takeD (some 208) (i := 21) (v := undef) rfl rfl (by kernel_rfl) (by kernel_rfl) (by kernel_rfl) (fun _ _ _ h => h) (Or.inr ⟨by kernel_rfl, rfl⟩) hS ?_; (try simp only [Act.put, List.setIfInBounds_toArray, List.set_cons_zero, List.set_cons_succ])); (refine takeD (some 209) (i := 22) (v := undef) rfl rfl (by kernel_rfl) (by kernel_rfl) (by kernel_rfl) (fun _ _ _ h => h) (Or.inr ⟨by kernel_rfl, rfl⟩) hS ?_; (try simp only [Act.put, List.setIfInBounds_toArray, List.set_cons_zero, List.set_cons_succ])); (refine takeD (some 210) (i := 23) (v := undef) rfl rfl (by kernel_rfl) (by kernel_rfl) (by kernel_rfl) (fun _ _ _ h => h) (Or.inr ⟨by kernel_rfl, rfl⟩) hS ?_; (try simp only [Act.put, List.setIfInBounds_toArray, List.set_cons_zero, List.set_cons_succ])); (refine takeD (some 211) (i := 24) (v := undef) rfl rfl (by kernel_rfl) (by kernel_rfl) (by kernel_rfl) (fun _ _ _ h => h) (Or.inr ⟨by kernel_rfl, rfl⟩) hS ?_; (try simp only [Act.put, List.setIfInBounds_toArray, List.set_cons_zero, List.set_cons_succ])); (refine takeD (some 212) (i := 25) (v := undef) rfl rfl (by kernel_rfl) (by kernel_rfl) (by kernel_rfl) (fun _ _ _ h => h) (Or.inr ⟨by kernel_rfl, rfl⟩) hS ?_; (try simp only [Act.put, List.setIfInBounds_toArray, List.set_cons_zero, List.set_cons_succ])); (refine takeD (some 213) (i := 26) (v := undef) rfl rfl (by kernel_rfl) (by kernel_rfl) (by kernel_rfl) (fun _ _ _ h => h) (Or.inr ⟨by kernel_rfl, rfl⟩) hS ?_; (try simp only [Act.put, List.setIfInBounds_toArray, List.set_cons_zero, List.set_cons_succ])); (refine takeD (some 214) (i := 27) (v := ?_) rfl rfl (by kernel_rfl) (by kernel_rfl) (by kernel_rfl) (fun _ _ _ h => h) (Or.inl ⟨by kernel_rfl, ?_⟩) hS ?_; rotate_left; focus ((intro w' hSw; (try dsimp only at hSw); go_simp) <;> with_reducible rfl); (try simp only [Act.put, List.setIfInBounds_toArray, List.set_cons_zero, List.set_cons_succ])); refine wpAnyH_done (by kernel_rfl) ?_ _; clear hS)
         (try go_split_ands)
         go_wp2_with fail
         all_goals (go_ret; refine ⟨?_, exA⟩; rw [Hv.out]; clear K1 K2 K3 K4 KD HS; (first | (simp only [beq_iff_eq, beq_eq_false_iff_ne, ne_eq, bne_iff_ne, bne_eq_false_iff_eq] at *) | skip); first | rfl | (simp [*, beq_dec]; done) | (simp [*, beq_dec]; omega) | (simp [*, beq_dec]; split <;> omega) | (simp [*, beq_dec]; split <;> split <;> omega)))
      | fail
  · have hgf : decide (D < paid + ep) = false := decide_eq_false hgt
    go_enter Try.func25, Try.ntmps25
    go_wp2_with (first
      | (go_at_call 16; (with_reducible refine (K1.out _ (hr.ext exA)).mono ?_); rintro e w1 ⟨rfl, hx1⟩; have h3 := HS.out w1 exA; go_split_ands)
      | (go_at_call 19; (with_reducible refine (K2.out _).mono ?_); rintro e w2 ⟨r, rfl, hr0, hx2⟩; obtain rfl : r = 0 := hr0.2 (by trivial); have h3 := HS.out w2 exA; go_split_ands)
      | (go_at_call 17; (with_reducible refine (K3.out _ (hr.ext exA)).mono ?_); rintro e w3 ⟨rfl, hx3⟩; have h3 := HS.out w3 exA; go_split_ands)
      | (go_at_call 45; (with_reducible refine (K4.out _ (hr.ext exA)).mono ?_); rintro e w4 ⟨rfl, hx4⟩; have h3 := HS.out w4 exA; go_split_ands; have y1 : Ext w w4 := exA; have r1 := range_ext Hc.out y1; have d1 : w4.cell? ⟨b, o + P * 4 + 1, none⟩ = some (.int .i64 lp) := r1 1 _ rfl; have d2 : w4.cell? ⟨b, o + P * 4 + 2, none⟩ = some (.int .i64 lq) := r1 2 _ rfl; have d3 : w4.cell? ⟨b, o + P * 4 + 3, none⟩ = some (.int .i64 lsh) := r1 3 _ rfl; clear r1))
    all_goals try (go_ret; refine ⟨?_, exA⟩; rw [Hv.out]; clear K1 K2 K3 K4 KD HS; (first | (simp only [beq_iff_eq, beq_eq_false_iff_ne, ne_eq, bne_iff_ne, bne_eq_false_iff_eq] at *) | skip); first | rfl | (simp [*, beq_dec]; done) | (simp [*, beq_dec]; omega) | (simp [*, beq_dec]; split <;> omega) | (simp [*, beq_dec]; split <;> split <;> omega))
    all_goals
      go_quiet (fail)
      go_wp2_with fail
      all_goals try (go_ret; refine ⟨?_, exA⟩; rw [Hv.out]; clear K1 K2 K3 K4 KD HS; (first | (simp only [beq_iff_eq, beq_eq_false_iff_ne, ne_eq, bne_iff_ne, bne_eq_false_iff_eq] at *) | skip); first | rfl | (simp [*, beq_dec]; done) | (simp [*, beq_dec]; omega) | (simp [*, beq_dec]; split <;> omega) | (simp [*, beq_dec]; split <;> split <;> omega))
    all_goals
      go_quiet (fail)
      go_wp2_with fail
      all_goals try (go_ret; refine ⟨?_, exA⟩; rw [Hv.out]; clear K1 K2 K3 K4 KD HS; (first | (simp only [beq_iff_eq, beq_eq_false_iff_ne, ne_eq, bne_iff_ne, bne_eq_false_iff_eq] at *) | skip); first | rfl | (simp [*, beq_dec]; done) | (simp [*, beq_dec]; omega) | (simp [*, beq_dec]; split <;> omega) | (simp [*, beq_dec]; split <;> split <;> omega))
    all_goals first
      | (go_quiet (fail)
         go_wp2_with fail
         all_goals (go_ret; refine ⟨?_, exA⟩; rw [Hv.out]; clear K1 K2 K3 K4 KD HS; (first | (simp only [beq_iff_eq, beq_eq_false_iff_ne, ne_eq, bne_iff_ne, bne_eq_false_iff_eq] at *) | skip); first | rfl | (simp [*, beq_dec]; done) | (simp [*, beq_dec]; omega) | (simp [*, beq_dec]; split <;> omega) | (simp [*, beq_dec]; split <;> split <;> omega)))
      | ((refine wp_region_held_drew (S := (fun w' : World => Ext ((w.alloc (.cells #[.int .i64 order, .int .i64 status, .int .i64 prior, .int .i64 cur, .int .i64 tax, .slice (some ⟨b, o, none⟩) n c, .int .i64 paid, .int .i64 refunded, .int .i64 events, .int .i64 refused, .int .i64 stamp, .string who] 25)).alloc (.cells #[.int .i64 ek, .int .i64 eo, .int .i64 ei, .int .i64 eq, .int .i64 ep, .int .i64 ec, .int .i64 et, .string ew, .int .i64 es, .string en] 28)) w' ∧ w'.cell? ⟨w.heap.size, 0, none⟩ = some (.int .i64 order) ∧ w'.cell? ⟨w.heap.size, 1, none⟩ = some (.int .i64 status) ∧ w'.cell? ⟨w.heap.size, 2, none⟩ = some (.int .i64 prior) ∧ w'.cell? ⟨w.heap.size, 3, none⟩ = some (.int .i64 cur) ∧ w'.cell? ⟨w.heap.size, 4, none⟩ = some (.int .i64 tax) ∧ w'.cell? ⟨w.heap.size, 5, none⟩ = some (.slice (some ⟨b, o, none⟩) n c) ∧ w'.cell? ⟨w.heap.size, 6, none⟩ = some (.int .i64 paid) ∧ w'.cell? ⟨w.heap.size, 7, none⟩ = some (.int .i64 refunded) ∧ w'.cell? ⟨w.heap.size, 8, none⟩ = some (.int .i64 events) ∧ w'.cell? ⟨w.heap.size, 9, none⟩ = some (.int .i64 refused) ∧ w'.cell? ⟨w.heap.size, 10, none⟩ = some (.int .i64 stamp) ∧ w'.cell? ⟨w.heap.size, 11, none⟩ = some (.string who) ∧ w'.cell? ⟨w.heap.size + 1, 0, none⟩ = some (.int .i64 ek) ∧ w'.cell? ⟨w.heap.size + 1, 1, none⟩ = some (.int .i64 eo) ∧ w'.cell? ⟨w.heap.size + 1, 2, none⟩ = some (.int .i64 ei) ∧ w'.cell? ⟨w.heap.size + 1, 3, none⟩ = some (.int .i64 eq) ∧ w'.cell? ⟨w.heap.size + 1, 4, none⟩ = some (.int .i64 ep) ∧ w'.cell? ⟨w.heap.size + 1, 5, none⟩ = some (.int .i64 ec) ∧ w'.cell? ⟨w.heap.size + 1, 6, none⟩ = some (.int .i64 et) ∧ w'.cell? ⟨w.heap.size + 1, 7, none⟩ = some (.string ew) ∧ w'.cell? ⟨w.heap.size + 1, 8, none⟩ = some (.int .i64 es) ∧ w'.cell? ⟨w.heap.size + 1, 9, none⟩ = some (.string en))) (by kernel_rfl) (HS.out _ exA) (fun hS => ?_); (refine takeD (some 187) (i := 0) (v := ?_) rfl rfl (by kernel_rfl) (by kernel_rfl) (by kernel_rfl) (fun _ _ _ h => h) (Or.inl ⟨by kernel_rfl, ?_⟩) hS ?_; rotate_left; focus ((intro w' hSw; (try dsimp only at hSw); go_simp) <;> with_reducible rfl); (try simp only [Act.put, List.setIfInBounds_toArray, List.set_cons_zero, List.set_cons_succ])); (refine takeD (some 188) (i := 1) (v := ?_) rfl rfl (by kernel_rfl) (by kernel_rfl) (by kernel_rfl) (fun _ _ _ h => h) (Or.inl ⟨by kernel_rfl, ?_⟩) hS ?_; rotate_left; focus ((intro w' hSw; (try dsimp only at hSw); go_simp) <;> with_reducible rfl); (try simp only [Act.put, List.setIfInBounds_toArray, List.set_cons_zero, List.set_cons_succ])); (refine takeD (some 189) (i := 2) (v := ?_) rfl rfl (by kernel_rfl) (by kernel_rfl) (by kernel_rfl) (fun _ _ _ h => h) (Or.inl ⟨by kernel_rfl, ?_⟩) hS ?_; rotate_left; focus ((intro w' hSw; (try dsimp only at hSw); go_simp) <;> with_reducible rfl); (try simp only [Act.put, List.setIfInBounds_toArray, List.set_cons_zero, List.set_cons_succ])); (refine takeD (some 190) (i := 3) (v := ?_) rfl rfl (by kernel_rfl) (by kernel_rfl) (by kernel_rfl) (fun _ _ _ h => h) (Or.inl ⟨by kernel_rfl, ?_⟩) hS ?_; rotate_left; focus ((intro w' hSw; (try dsimp only at hSw); go_simp) <;> with_reducible rfl); (try simp only [Act.put, List.setIfInBounds_toArray, List.set_cons_zero, List.set_cons_succ])); (refine takeD (some 191) (i := 4) (v := ?_) rfl rfl (by kernel_rfl) (by kernel_rfl) (by kernel_rfl) (fun _ _ _ h => h) (Or.inl ⟨by kernel_rfl, ?_⟩) hS ?_; rotate_left; focus ((intro w' hSw; (try dsimp only at hSw); go_simp) <;> with_reducible rfl); (try simp only [Act.put, List.setIfInBounds_toArray, List.set_cons_zero, List.set_cons_succ])); (refine takeD (some 192) (i := 5) (v := ?_) rfl rfl (by kernel_rfl) (by kernel_rfl) (by kernel_rfl) (fun _ _ _ h => h) (Or.inl ⟨by kernel_rfl, ?_⟩) hS ?_; rotate_left; focus ((intro w' hSw; (try dsimp only at hSw); go_simp) <;> with_reducible rfl); (try simp only [Act.put, List.setIfInBounds_toArray, List.set_cons_zero, List.set_cons_succ])); (refine takeD (some 193) (i := 6) (v := ?_) rfl rfl (by kernel_rfl) (by kernel_rfl) (by kernel_rfl) (fun _ _ _ h => h) (Or.inl ⟨by kernel_rfl, ?_⟩) hS ?_; rotate_left; focus ((intro w' hSw; (try dsimp only at hSw); go_simp) <;> with_reducible rfl); (try simp only [Act.put, List.setIfInBounds_toArray, List.set_cons_zero, List.set_cons_succ])); (refine takeD (some 194) (i := 7) (v := ?_) rfl rfl (by kernel_rfl) (by kernel_rfl) (by kernel_rfl) (fun _ _ _ h => h) (Or.inl ⟨by kernel_rfl, ?_⟩) hS ?_; rotate_left; focus ((intro w' hSw; (try dsimp only at hSw); go_simp) <;> with_reducible rfl); (try simp only [Act.put, List.setIfInBounds_toArray, List.set_cons_zero, List.set_cons_succ])); (refine takeD (some 195) (i := 8) (v := ?_) rfl rfl (by kernel_rfl) (by kernel_rfl) (by kernel_rfl) (fun _ _ _ h => h) (Or.inl ⟨by kernel_rfl, ?_⟩) hS ?_; rotate_left; focus ((intro w' hSw; (try dsimp only at hSw); go_simp) <;> with_reducible rfl); (try simp only [Act.put, List.setIfInBounds_toArray, List.set_cons_zero, List.set_cons_succ])); (refine takeD (some 196) (i := 9) (v := ?_) rfl rfl (by kernel_rfl) (by kernel_rfl) (by kernel_rfl) (fun _ _ _ h => h) (Or.inl ⟨by kernel_rfl, ?_⟩) hS ?_; rotate_left; focus ((intro w' hSw; (try dsimp only at hSw); go_simp) <;> with_reducible rfl); (try simp only [Act.put, List.setIfInBounds_toArray, List.set_cons_zero, List.set_cons_succ])); (refine wpAnyH_ready (rs := [10]) (by kernel_rfl) (by simp) (AllReadyH.cons rfl (fun K hK => ?_) AllReadyH.nil); go_simp; go_at_call 24; (with_reducible refine (KD.out _ (hr.ext exA)).mono ?_); rintro e w5 ⟨rfl, hx5⟩; refine hK.out _ _ (HS.out _ exA) (fun hS => ?_); clear hK K; (try simp only [Act.put, List.setIfInBounds_toArray, List.set_cons_zero, List.set_cons_succ])); (refine takeD (some 198) (i := 11) (v := ?_) rfl rfl (by kernel_rfl) (by kernel_rfl) (by kernel_rfl) (fun _ _ _ h => h) (Or.inl ⟨by kernel_rfl, ?_⟩) hS ?_; rotate_left; focus ((intro w' hSw; (try dsimp only at hSw); go_simp) <;> with_reducible rfl); (try simp only [Act.put, List.setIfInBounds_toArray, List.set_cons_zero, List.set_cons_succ])); (refine takeD (some 199) (i := 12) (v := ?_) rfl rfl (by kernel_rfl) (by kernel_rfl) (by kernel_rfl) (fun _ _ _ h => h) (Or.inl ⟨by kernel_rfl, ?_⟩) hS ?_; rotate_left; focus ((intro w' hSw; (try dsimp only at hSw); go_simp) <;> with_reducible rfl); (try simp only [Act.put, List.setIfInBounds_toArray, List.set_cons_zero, List.set_cons_succ])); (refine takeD (some 200) (i := 13) (v := ?_) rfl rfl (by kernel_rfl) (by kernel_rfl) (by kernel_rfl) (fun _ _ _ h => h) (Or.inl ⟨by kernel_rfl, ?_⟩) hS ?_; rotate_left; focus ((intro w' hSw; (try dsimp only at hSw); go_simp) <;> with_reducible rfl); (try simp only [Act.put, List.setIfInBounds_toArray, List.set_cons_zero, List.set_cons_succ])); (refine takeD (some 201) (i := 14) (v := ?_) rfl rfl (by kernel_rfl) (by kernel_rfl) (by kernel_rfl) (fun _ _ _ h => h) (Or.inl ⟨by kernel_rfl, ?_⟩) hS ?_; rotate_left; focus ((intro w' hSw; (try dsimp only at hSw); go_simp) <;> with_reducible rfl); (try simp only [Act.put, List.setIfInBounds_toArray, List.set_cons_zero, List.set_cons_succ])); (refine takeD (some 202) (i := 15) (v := ?_) rfl rfl (by kernel_rfl) (by kernel_rfl) (by kernel_rfl) (fun _ _ _ h => h) (Or.inl ⟨by kernel_rfl, ?_⟩) hS ?_; rotate_left; focus ((intro w' hSw; (try dsimp only at hSw); go_simp) <;> with_reducible rfl); (try simp only [Act.put, List.setIfInBounds_toArray, List.set_cons_zero, List.set_cons_succ])); (refine takeD (some 203) (i := 16) (v := ?_) rfl rfl (by kernel_rfl) (by kernel_rfl) (by kernel_rfl) (fun _ _ _ h => h) (Or.inl ⟨by kernel_rfl, ?_⟩) hS ?_; rotate_left; focus ((intro w' hSw; (try dsimp only at hSw); go_simp) <;> with_reducible rfl); (try simp only [Act.put, List.setIfInBounds_toArray, List.set_cons_zero, List.set_cons_succ])); (refine takeD (some 204) (i := 17) (v := ?_) rfl rfl (by kernel_rfl) (by kernel_rfl) (by kernel_rfl) (fun _ _ _ h => h) (Or.inl ⟨by kernel_rfl, ?_⟩) hS ?_; rotate_left; focus ((intro w' hSw; (try dsimp only at hSw); go_simp) <;> with_reducible rfl); (try simp only [Act.put, List.setIfInBounds_toArray, List.set_cons_zero, List.set_cons_succ])); (refine takeD (some 205) (i := 18) (v := undef) rfl rfl (by kernel_rfl) (by kernel_rfl) (by kernel_rfl) (fun _ _ _ h => h) (Or.inr ⟨by kernel_rfl, rfl⟩) hS ?_; (try simp only [Act.put, List.setIfInBounds_toArray, List.set_cons_zero, List.set_cons_succ])); (refine takeD (some 206) (i := 19) (v := undef) rfl rfl (by kernel_rfl) (by kernel_rfl) (by kernel_rfl) (fun _ _ _ h => h) (Or.inr ⟨by kernel_rfl, rfl⟩) hS ?_; (try simp only [Act.put, List.setIfInBounds_toArray, List.set_cons_zero, List.set_cons_succ])); (refine takeD (some 207) (i := 20) (v := undef) rfl rfl (by kernel_rfl) (by kernel_rfl) (by kernel_rfl) (fun _ _ _ h => h) (Or.inr ⟨by kernel_rfl, rfl⟩) hS ?_; (try simp only [Act.put, List.setIfInBounds_toArray, List.set_cons_zero, List.set_cons_succ])); (refine takeD (some 208) (i := 21) (v := undef) rfl rfl (by kernel_rfl) (by kernel_rfl) (by kernel_rfl) (fun _ _ _ h => h) (Or.inr ⟨by kernel_rfl, rfl⟩) hS ?_; (try simp only [Act.put, List.setIfInBounds_toArray, List.set_cons_zero, List.set_cons_succ])); (refine takeD (some 209) (i := 22) (v := undef) rfl rfl (by kernel_rfl) (by kernel_rfl) (by kernel_rfl) (fun _ _ _ h => h) (Or.inr ⟨by kernel_rfl, rfl⟩) hS ?_; (try simp only [Act.put, List.setIfInBounds_toArray, List.set_cons_zero, List.set_cons_succ])); (refine takeD (some 210) (i := 23) (v := undef) rfl rfl (by kernel_rfl) (by kernel_rfl) (by kernel_rfl) (fun _ _ _ h => h) (Or.inr ⟨by kernel_rfl, rfl⟩) hS ?_; (try simp only [Act.put, List.setIfInBounds_toArray, List.set_cons_zero, List.set_cons_succ])); (refine takeD (some 211) (i := 24) (v := undef) rfl rfl (by kernel_rfl) (by kernel_rfl) (by kernel_rfl) (fun _ _ _ h => h) (Or.inr ⟨by kernel_rfl, rfl⟩) hS ?_; (try simp only [Act.put, List.setIfInBounds_toArray, List.set_cons_zero, List.set_cons_succ])); (refine takeD (some 212) (i := 25) (v := undef) rfl rfl (by kernel_rfl) (by kernel_rfl) (by kernel_rfl) (fun _ _ _ h => h) (Or.inr ⟨by kernel_rfl, rfl⟩) hS ?_; (try simp only [Act.put, List.setIfInBounds_toArray, List.set_cons_zero, List.set_cons_succ])); (refine takeD (some 213) (i := 26) (v := ?_) rfl rfl (by kernel_rfl) (by kernel_rfl) (by kernel_rfl) (fun _ _ _ h => h) (Or.inl ⟨by kernel_rfl, ?_⟩) hS ?_; rotate_left; focus ((intro w' hSw; (try dsimp only at hSw); go_simp) <;> with_reducible rfl); (try simp only [Act.put, List.setIfInBounds_toArray, List.set_cons_zero, List.set_cons_succ])); (refine takeD (some 214) (i := 27) (v := ?_) rfl rfl (by kernel_rfl) (by kernel_rfl) (by kernel_rfl) (fun _ _ _ h => h) (Or.inl ⟨by kernel_rfl, ?_⟩) hS ?_; rotate_left; focus ((intro w' hSw; (try dsimp only at hSw); go_simp) <;> with_reducible rfl); (try simp only [Act.put, List.setIfInBounds_toArray, List.set_cons_zero, List.set_cons_succ])); refine wpAnyH_done (by kernel_rfl) ?_ _; clear hS)
         (try go_split_ands)
         go_wp2_with fail
         all_goals (go_ret; refine ⟨?_, exA⟩; rw [Hv.out]; clear K1 K2 K3 K4 KD HS; (first | (simp only [beq_iff_eq, beq_eq_false_iff_ne, ne_eq, bne_iff_ne, bne_eq_false_iff_eq] at *) | skip); first | rfl | (simp [*, beq_dec]; done) | (simp [*, beq_dec]; omega) | (simp [*, beq_dec]; split <;> omega) | (simp [*, beq_dec]; split <;> split <;> omega)))
      | fail
set_option maxRecDepth 100000 in
set_option maxHeartbeats 8000000 in
theorem rjudge_yes_4 (s : St) (e : Ev) (A : Option Addr) (c : Nat) (w : World) (hr : LsRd w A s.lines) (hw : s.who.size ≤ 4611686018427387904) (hw2 : e.who.size ≤ 4611686018427387904) (hw3 : e.note.size ≤ 4611686018427387904) (hB : validB s = true) (hC : check5 e = 0) (hev : s.events ≠ 1099511627776) (hor : e.order = s.order) (hU : useB s e.kind = true) (ht : thereB e.item s.lines = true) (hkk : e.kind = 4) :
    Calls Try.prog 25 #[.agg (stcells s A c), .agg (evcells e)] w fun e' w' => e' = .returned (.int .i64 (amt s e)) ∧ Ext w w' := by
  have hv := valid_iff.1 hB
  have he := event_iff.1 hC
  have hlen := hv.len
  have K1 := Lib.hid fun W (h : LsRd W A s.lines) => rvalid_any s A c W h (by omega) hw
  have K2 := Lib.hid fun W => rcheck5_any e W hw2 hw3
  have K3 := Lib.hid fun W (h : LsRd W A s.lines) => ruse_any s e.kind A c W h (fun l hl => (lnB_iff.1 (rises_mem hv.rises l hl).1).2.2.2.1) (by omega)
  have K4 := Lib.hid fun W (h : LsRd W A s.lines) => rat_any s e.item A c W h hv.rises (by omega)
  have KD := Lib.hid fun W (h : LsRd W A s.lines) => rdue_any s A c W h (fun l hl => (rises_mem hv.rises l hl).1) hv.len hv.tax
  obtain ⟨hP, hline⟩ := line_there hv.rises ht
  obtain ⟨b, o, rfl, hc⟩ := ls_at hr hP
  have Hl := (lnB_iff.1 (rises_mem hv.rises _ (List.getElem_mem hP)).1).2
  obtain ⟨l, hl⟩ : ∃ l, l = s.lines[posOf e.item s.lines]'hP := ⟨_, rfl⟩
  rw [← hl] at Hl hline hc
  clear hl
  have Hv : Hid (amt s e = if ((e.kind = 2 ∨ e.kind = 6 ∨ e.kind = 4) ∧ e.qty = 0) ∨ ((e.kind = 3 ∨ e.kind = 7) ∧ e.price = 0) then 6
    else if e.kind = 2 ∧ l.price ≠ e.price then 8
      else if (e.kind = 2 ∧ 100000 < l.qty + e.qty) ∨ (e.kind = 6 ∧ l.qty < e.qty) ∨ (e.kind = 4 ∧ l.qty - l.shipped < e.qty) then 10
      else if (e.kind = 3 ∧ due s < s.paid + e.price) ∨ (e.kind = 7 ∧ s.paid < s.refunded + e.price) then 10 else 0) := Lib.hid (by unfold amt; rw [hline])
  have hb := net_bound fun l hl => (rises_mem hv.rises l hl).1
  have hx := tax_bound hb.1 hv.tax.1 hv.tax.2
  have hdu : due s = net s.lines + taxOf (net s.lines) s.tax := rfl
  have hp := hv.paid
  have hrf := hv.refunded
  have hpr := he.price
  have hqt := he.qty
  have hk := he.kind
  have hD : 0 ≤ s.paid ∧ s.paid ≤ 320000000000000 := by omega
  clear hb hx hdu hp
  rw [hB] at K1
  rw [hC] at K2
  rw [hU] at K3
  rw [atI_yes ht] at K4
  have hst : (e.kind = 1 ∧ s.status = 0) ∨ (e.kind ≠ 1 ∧ s.status ≠ 0) := by
    have h := hU
    unfold useB at h
    repeat' split at h
    all_goals (simp only [decide_eq_true_eq, Bool.or_eq_true, Bool.and_eq_true] at h; omega)
  generalize posOf e.item s.lines = P at *
  generalize due s = D at *
  generalize amt s e = R at *
  clear hv he ht hB hC hU hline
  obtain ⟨order, status, prior, cur, tax, ls, paid, refunded, events, refused, stamp, who⟩ := s
  obtain ⟨ek, eo, ei, eq, ep, ec, et, ew, es, en⟩ := e
  obtain ⟨li, lp, lq, lsh⟩ := l
  unfold stcells evcells at *
  unfold lncells at hc
  dsimp only at *
  have o1 : (eo != order) = false := by simp; exact hor
  clear hor
  have Hc := Lib.hid hc
  clear hc
  obtain ⟨hl1, hl2, hl3⟩ := Hl
  generalize ls.length = n at *
  have hw1 : IntKind.i64.wrap (paid + ep) = paid + ep := by rw [IntKind.wrap_i64]; omega
  have hw4 : IntKind.i64.wrap (refunded + ep) = refunded + ep := by rw [IntKind.wrap_i64]; omega
  have hv1 : (events == 1099511627776) = false := by simp; exact hev
  clear hev
  have hw2 : IntKind.i64.wrap (lq + eq) = lq + eq := by rw [IntKind.wrap_i64]; omega
  have hw3 : IntKind.i64.wrap (lq - lsh) = lq - lsh := by rw [IntKind.wrap_i64]; omega
  have hwP : IntKind.i64.wrap (P : Int) = (P : Int) := by rw [IntKind.wrap_i64]; omega
  have hPn : (P : Int) < (n : Int) := by omega
  have hP0 : (0 : Int) ≤ (P : Int) := by omega
  have HS := Lib.hid (fun w' (h : Ext ((w.alloc (.cells #[.int .i64 order, .int .i64 status, .int .i64 prior, .int .i64 cur, .int .i64 tax, .slice (some ⟨b, o, none⟩) n c, .int .i64 paid, .int .i64 refunded, .int .i64 events, .int .i64 refused, .int .i64 stamp, .string who] 25)).alloc (.cells #[.int .i64 ek, .int .i64 eo, .int .i64 ei, .int .i64 eq, .int .i64 ep, .int .i64 ec, .int .i64 et, .string ew, .int .i64 es, .string en] 28)) w') => (⟨h, (Ext.blk h (BlkA (BlkN rfl))).cell 0, (Ext.blk h (BlkA (BlkN rfl))).cell 1, (Ext.blk h (BlkA (BlkN rfl))).cell 2, (Ext.blk h (BlkA (BlkN rfl))).cell 3, (Ext.blk h (BlkA (BlkN rfl))).cell 4, (Ext.blk h (BlkA (BlkN rfl))).cell 5, (Ext.blk h (BlkA (BlkN rfl))).cell 6, (Ext.blk h (BlkA (BlkN rfl))).cell 7, (Ext.blk h (BlkA (BlkN rfl))).cell 8, (Ext.blk h (BlkA (BlkN rfl))).cell 9, (Ext.blk h (BlkA (BlkN rfl))).cell 10, (Ext.blk h (BlkA (BlkN rfl))).cell 11, (Ext.blk h (BlkN (by simp))).cell 0, (Ext.blk h (BlkN (by simp))).cell 1, (Ext.blk h (BlkN (by simp))).cell 2, (Ext.blk h (BlkN (by simp))).cell 3, (Ext.blk h (BlkN (by simp))).cell 4, (Ext.blk h (BlkN (by simp))).cell 5, (Ext.blk h (BlkN (by simp))).cell 6, (Ext.blk h (BlkN (by simp))).cell 7, (Ext.blk h (BlkN (by simp))).cell 8, (Ext.blk h (BlkN (by simp))).cell 9⟩ : (fun w' : World => Ext ((w.alloc (.cells #[.int .i64 order, .int .i64 status, .int .i64 prior, .int .i64 cur, .int .i64 tax, .slice (some ⟨b, o, none⟩) n c, .int .i64 paid, .int .i64 refunded, .int .i64 events, .int .i64 refused, .int .i64 stamp, .string who] 25)).alloc (.cells #[.int .i64 ek, .int .i64 eo, .int .i64 ei, .int .i64 eq, .int .i64 ep, .int .i64 ec, .int .i64 et, .string ew, .int .i64 es, .string en] 28)) w' ∧ w'.cell? ⟨w.heap.size, 0, none⟩ = some (.int .i64 order) ∧ w'.cell? ⟨w.heap.size, 1, none⟩ = some (.int .i64 status) ∧ w'.cell? ⟨w.heap.size, 2, none⟩ = some (.int .i64 prior) ∧ w'.cell? ⟨w.heap.size, 3, none⟩ = some (.int .i64 cur) ∧ w'.cell? ⟨w.heap.size, 4, none⟩ = some (.int .i64 tax) ∧ w'.cell? ⟨w.heap.size, 5, none⟩ = some (.slice (some ⟨b, o, none⟩) n c) ∧ w'.cell? ⟨w.heap.size, 6, none⟩ = some (.int .i64 paid) ∧ w'.cell? ⟨w.heap.size, 7, none⟩ = some (.int .i64 refunded) ∧ w'.cell? ⟨w.heap.size, 8, none⟩ = some (.int .i64 events) ∧ w'.cell? ⟨w.heap.size, 9, none⟩ = some (.int .i64 refused) ∧ w'.cell? ⟨w.heap.size, 10, none⟩ = some (.int .i64 stamp) ∧ w'.cell? ⟨w.heap.size, 11, none⟩ = some (.string who) ∧ w'.cell? ⟨w.heap.size + 1, 0, none⟩ = some (.int .i64 ek) ∧ w'.cell? ⟨w.heap.size + 1, 1, none⟩ = some (.int .i64 eo) ∧ w'.cell? ⟨w.heap.size + 1, 2, none⟩ = some (.int .i64 ei) ∧ w'.cell? ⟨w.heap.size + 1, 3, none⟩ = some (.int .i64 eq) ∧ w'.cell? ⟨w.heap.size + 1, 4, none⟩ = some (.int .i64 ep) ∧ w'.cell? ⟨w.heap.size + 1, 5, none⟩ = some (.int .i64 ec) ∧ w'.cell? ⟨w.heap.size + 1, 6, none⟩ = some (.int .i64 et) ∧ w'.cell? ⟨w.heap.size + 1, 7, none⟩ = some (.string ew) ∧ w'.cell? ⟨w.heap.size + 1, 8, none⟩ = some (.int .i64 es) ∧ w'.cell? ⟨w.heap.size + 1, 9, none⟩ = some (.string en)) w'))
  have hs1 : status ≠ 0 := by omega
  have s1 : (status == 0) = false := by simp; exact hs1
  have s2 : (status != 0) = true := by simp; exact hs1
  have e1 : (ek == 1) = false := by simp; omega
  have e2 : (ek == 2) = false := by simp; omega
  have e3 : (ek == 3) = false := by simp; omega
  have e4 : (ek == 4) = true := by simp; omega
  have e6 : (ek == 6) = false := by simp; omega
  have e7 : (ek == 7) = false := by simp; omega
  clear hkk hst hs1
  go_enter Try.func25, Try.ntmps25
  go_wp2_with (first
    | (go_at_call 16; (with_reducible refine (K1.out _ (hr.ext exA)).mono ?_); rintro e w1 ⟨rfl, hx1⟩; have h3 := HS.out w1 exA; go_split_ands)
    | (go_at_call 19; (with_reducible refine (K2.out _).mono ?_); rintro e w2 ⟨r, rfl, hr0, hx2⟩; obtain rfl : r = 0 := hr0.2 (by trivial); have h3 := HS.out w2 exA; go_split_ands)
    | (go_at_call 17; (with_reducible refine (K3.out _ (hr.ext exA)).mono ?_); rintro e w3 ⟨rfl, hx3⟩; have h3 := HS.out w3 exA; go_split_ands)
    | (go_at_call 45; (with_reducible refine (K4.out _ (hr.ext exA)).mono ?_); rintro e w4 ⟨rfl, hx4⟩; have h3 := HS.out w4 exA; go_split_ands; have y1 : Ext w w4 := exA; have r1 := range_ext Hc.out y1; have d1 : w4.cell? ⟨b, o + P * 4 + 1, none⟩ = some (.int .i64 lp) := r1 1 _ rfl; have d2 : w4.cell? ⟨b, o + P * 4 + 2, none⟩ = some (.int .i64 lq) := r1 2 _ rfl; have d3 : w4.cell? ⟨b, o + P * 4 + 3, none⟩ = some (.int .i64 lsh) := r1 3 _ rfl; clear r1))
  all_goals try (go_ret; refine ⟨?_, exA⟩; rw [Hv.out]; clear K1 K2 K3 K4 KD HS; (first | (simp only [beq_iff_eq, beq_eq_false_iff_ne, ne_eq, bne_iff_ne, bne_eq_false_iff_eq] at *) | skip); first | rfl | (simp [*, beq_dec]; done) | (simp [*, beq_dec]; omega) | (simp [*, beq_dec]; split <;> omega) | (simp [*, beq_dec]; split <;> split <;> omega))
  all_goals
    go_quiet (fail)
    go_wp2_with fail
    all_goals try (go_ret; refine ⟨?_, exA⟩; rw [Hv.out]; clear K1 K2 K3 K4 KD HS; (first | (simp only [beq_iff_eq, beq_eq_false_iff_ne, ne_eq, bne_iff_ne, bne_eq_false_iff_eq] at *) | skip); first | rfl | (simp [*, beq_dec]; done) | (simp [*, beq_dec]; omega) | (simp [*, beq_dec]; split <;> omega) | (simp [*, beq_dec]; split <;> split <;> omega))
  all_goals
    go_quiet (fail)
    go_wp2_with fail
    all_goals try (go_ret; refine ⟨?_, exA⟩; rw [Hv.out]; clear K1 K2 K3 K4 KD HS; (first | (simp only [beq_iff_eq, beq_eq_false_iff_ne, ne_eq, bne_iff_ne, bne_eq_false_iff_eq] at *) | skip); first | rfl | (simp [*, beq_dec]; done) | (simp [*, beq_dec]; omega) | (simp [*, beq_dec]; split <;> omega) | (simp [*, beq_dec]; split <;> split <;> omega))
  all_goals first
    | (go_quiet (fail)
       go_wp2_with fail
       all_goals (go_ret; refine ⟨?_, exA⟩; rw [Hv.out]; clear K1 K2 K3 K4 KD HS; (first | (simp only [beq_iff_eq, beq_eq_false_iff_ne, ne_eq, bne_iff_ne, bne_eq_false_iff_eq] at *) | skip); first | rfl | (simp [*, beq_dec]; done) | (simp [*, beq_dec]; omega) | (simp [*, beq_dec]; split <;> omega) | (simp [*, beq_dec]; split <;> split <;> omega)))
    | ((go_region_held3 (fun w' : World => Ext ((w.alloc (.cells #[.int .i64 order, .int .i64 status, .int .i64 prior, .int .i64 cur, .int .i64 tax, .slice (some ⟨b, o, none⟩) n c, .int .i64 paid, .int .i64 refunded, .int .i64 events, .int .i64 refused, .int .i64 stamp, .string who] 25)).alloc (.cells #[.int .i64 ek, .int .i64 eo, .int .i64 ei, .int .i64 eq, .int .i64 ep, .int .i64 ec, .int .i64 et, .string ew, .int .i64 es, .string en] 28)) w' ∧ w'.cell? ⟨w.heap.size, 0, none⟩ = some (.int .i64 order) ∧ w'.cell? ⟨w.heap.size, 1, none⟩ = some (.int .i64 status) ∧ w'.cell? ⟨w.heap.size, 2, none⟩ = some (.int .i64 prior) ∧ w'.cell? ⟨w.heap.size, 3, none⟩ = some (.int .i64 cur) ∧ w'.cell? ⟨w.heap.size, 4, none⟩ = some (.int .i64 tax) ∧ w'.cell? ⟨w.heap.size, 5, none⟩ = some (.slice (some ⟨b, o, none⟩) n c) ∧ w'.cell? ⟨w.heap.size, 6, none⟩ = some (.int .i64 paid) ∧ w'.cell? ⟨w.heap.size, 7, none⟩ = some (.int .i64 refunded) ∧ w'.cell? ⟨w.heap.size, 8, none⟩ = some (.int .i64 events) ∧ w'.cell? ⟨w.heap.size, 9, none⟩ = some (.int .i64 refused) ∧ w'.cell? ⟨w.heap.size, 10, none⟩ = some (.int .i64 stamp) ∧ w'.cell? ⟨w.heap.size, 11, none⟩ = some (.string who) ∧ w'.cell? ⟨w.heap.size + 1, 0, none⟩ = some (.int .i64 ek) ∧ w'.cell? ⟨w.heap.size + 1, 1, none⟩ = some (.int .i64 eo) ∧ w'.cell? ⟨w.heap.size + 1, 2, none⟩ = some (.int .i64 ei) ∧ w'.cell? ⟨w.heap.size + 1, 3, none⟩ = some (.int .i64 eq) ∧ w'.cell? ⟨w.heap.size + 1, 4, none⟩ = some (.int .i64 ep) ∧ w'.cell? ⟨w.heap.size + 1, 5, none⟩ = some (.int .i64 ec) ∧ w'.cell? ⟨w.heap.size + 1, 6, none⟩ = some (.int .i64 et) ∧ w'.cell? ⟨w.heap.size + 1, 7, none⟩ = some (.string ew) ∧ w'.cell? ⟨w.heap.size + 1, 8, none⟩ = some (.int .i64 es) ∧ w'.cell? ⟨w.heap.size + 1, 9, none⟩ = some (.string en))
  (exact HS.out _ exA)
  (first
    | (go_at_call 24; (with_reducible refine (KD.out _ (hr.ext exA)).mono ?_); rintro e w5 ⟨rfl, hx5⟩)))
       (try go_split_ands)
       go_wp2_with fail
       all_goals (go_ret; refine ⟨?_, exA⟩; rw [Hv.out]; clear K1 K2 K3 K4 KD HS; (first | (simp only [beq_iff_eq, beq_eq_false_iff_ne, ne_eq, bne_iff_ne, bne_eq_false_iff_eq] at *) | skip); first | rfl | (simp [*, beq_dec]; done) | (simp [*, beq_dec]; omega) | (simp [*, beq_dec]; split <;> omega) | (simp [*, beq_dec]; split <;> split <;> omega)))
    | fail
set_option maxRecDepth 100000 in
set_option maxHeartbeats 8000000 in
theorem rjudge_yes_6 (s : St) (e : Ev) (A : Option Addr) (c : Nat) (w : World) (hr : LsRd w A s.lines) (hw : s.who.size ≤ 4611686018427387904) (hw2 : e.who.size ≤ 4611686018427387904) (hw3 : e.note.size ≤ 4611686018427387904) (hB : validB s = true) (hC : check5 e = 0) (hev : s.events ≠ 1099511627776) (hor : e.order = s.order) (hU : useB s e.kind = true) (ht : thereB e.item s.lines = true) (hkk : e.kind = 6) :
    Calls Try.prog 25 #[.agg (stcells s A c), .agg (evcells e)] w fun e' w' => e' = .returned (.int .i64 (amt s e)) ∧ Ext w w' := by
  have hv := valid_iff.1 hB
  have he := event_iff.1 hC
  have hlen := hv.len
  have K1 := Lib.hid fun W (h : LsRd W A s.lines) => rvalid_any s A c W h (by omega) hw
  have K2 := Lib.hid fun W => rcheck5_any e W hw2 hw3
  have K3 := Lib.hid fun W (h : LsRd W A s.lines) => ruse_any s e.kind A c W h (fun l hl => (lnB_iff.1 (rises_mem hv.rises l hl).1).2.2.2.1) (by omega)
  have K4 := Lib.hid fun W (h : LsRd W A s.lines) => rat_any s e.item A c W h hv.rises (by omega)
  have KD := Lib.hid fun W (h : LsRd W A s.lines) => rdue_any s A c W h (fun l hl => (rises_mem hv.rises l hl).1) hv.len hv.tax
  obtain ⟨hP, hline⟩ := line_there hv.rises ht
  obtain ⟨b, o, rfl, hc⟩ := ls_at hr hP
  have Hl := (lnB_iff.1 (rises_mem hv.rises _ (List.getElem_mem hP)).1).2
  obtain ⟨l, hl⟩ : ∃ l, l = s.lines[posOf e.item s.lines]'hP := ⟨_, rfl⟩
  rw [← hl] at Hl hline hc
  clear hl
  have Hv : Hid (amt s e = if ((e.kind = 2 ∨ e.kind = 6 ∨ e.kind = 4) ∧ e.qty = 0) ∨ ((e.kind = 3 ∨ e.kind = 7) ∧ e.price = 0) then 6
    else if e.kind = 2 ∧ l.price ≠ e.price then 8
      else if (e.kind = 2 ∧ 100000 < l.qty + e.qty) ∨ (e.kind = 6 ∧ l.qty < e.qty) ∨ (e.kind = 4 ∧ l.qty - l.shipped < e.qty) then 10
      else if (e.kind = 3 ∧ due s < s.paid + e.price) ∨ (e.kind = 7 ∧ s.paid < s.refunded + e.price) then 10 else 0) := Lib.hid (by unfold amt; rw [hline])
  have hb := net_bound fun l hl => (rises_mem hv.rises l hl).1
  have hx := tax_bound hb.1 hv.tax.1 hv.tax.2
  have hdu : due s = net s.lines + taxOf (net s.lines) s.tax := rfl
  have hp := hv.paid
  have hrf := hv.refunded
  have hpr := he.price
  have hqt := he.qty
  have hk := he.kind
  have hD : 0 ≤ s.paid ∧ s.paid ≤ 320000000000000 := by omega
  clear hb hx hdu hp
  rw [hB] at K1
  rw [hC] at K2
  rw [hU] at K3
  rw [atI_yes ht] at K4
  have hst : (e.kind = 1 ∧ s.status = 0) ∨ (e.kind ≠ 1 ∧ s.status ≠ 0) := by
    have h := hU
    unfold useB at h
    repeat' split at h
    all_goals (simp only [decide_eq_true_eq, Bool.or_eq_true, Bool.and_eq_true] at h; omega)
  generalize posOf e.item s.lines = P at *
  generalize due s = D at *
  generalize amt s e = R at *
  clear hv he ht hB hC hU hline
  obtain ⟨order, status, prior, cur, tax, ls, paid, refunded, events, refused, stamp, who⟩ := s
  obtain ⟨ek, eo, ei, eq, ep, ec, et, ew, es, en⟩ := e
  obtain ⟨li, lp, lq, lsh⟩ := l
  unfold stcells evcells at *
  unfold lncells at hc
  dsimp only at *
  have o1 : (eo != order) = false := by simp; exact hor
  clear hor
  have Hc := Lib.hid hc
  clear hc
  obtain ⟨hl1, hl2, hl3⟩ := Hl
  generalize ls.length = n at *
  have hw1 : IntKind.i64.wrap (paid + ep) = paid + ep := by rw [IntKind.wrap_i64]; omega
  have hw4 : IntKind.i64.wrap (refunded + ep) = refunded + ep := by rw [IntKind.wrap_i64]; omega
  have hv1 : (events == 1099511627776) = false := by simp; exact hev
  clear hev
  have hw2 : IntKind.i64.wrap (lq + eq) = lq + eq := by rw [IntKind.wrap_i64]; omega
  have hw3 : IntKind.i64.wrap (lq - lsh) = lq - lsh := by rw [IntKind.wrap_i64]; omega
  have hwP : IntKind.i64.wrap (P : Int) = (P : Int) := by rw [IntKind.wrap_i64]; omega
  have hPn : (P : Int) < (n : Int) := by omega
  have hP0 : (0 : Int) ≤ (P : Int) := by omega
  have HS := Lib.hid (fun w' (h : Ext ((w.alloc (.cells #[.int .i64 order, .int .i64 status, .int .i64 prior, .int .i64 cur, .int .i64 tax, .slice (some ⟨b, o, none⟩) n c, .int .i64 paid, .int .i64 refunded, .int .i64 events, .int .i64 refused, .int .i64 stamp, .string who] 25)).alloc (.cells #[.int .i64 ek, .int .i64 eo, .int .i64 ei, .int .i64 eq, .int .i64 ep, .int .i64 ec, .int .i64 et, .string ew, .int .i64 es, .string en] 28)) w') => (⟨h, (Ext.blk h (BlkA (BlkN rfl))).cell 0, (Ext.blk h (BlkA (BlkN rfl))).cell 1, (Ext.blk h (BlkA (BlkN rfl))).cell 2, (Ext.blk h (BlkA (BlkN rfl))).cell 3, (Ext.blk h (BlkA (BlkN rfl))).cell 4, (Ext.blk h (BlkA (BlkN rfl))).cell 5, (Ext.blk h (BlkA (BlkN rfl))).cell 6, (Ext.blk h (BlkA (BlkN rfl))).cell 7, (Ext.blk h (BlkA (BlkN rfl))).cell 8, (Ext.blk h (BlkA (BlkN rfl))).cell 9, (Ext.blk h (BlkA (BlkN rfl))).cell 10, (Ext.blk h (BlkA (BlkN rfl))).cell 11, (Ext.blk h (BlkN (by simp))).cell 0, (Ext.blk h (BlkN (by simp))).cell 1, (Ext.blk h (BlkN (by simp))).cell 2, (Ext.blk h (BlkN (by simp))).cell 3, (Ext.blk h (BlkN (by simp))).cell 4, (Ext.blk h (BlkN (by simp))).cell 5, (Ext.blk h (BlkN (by simp))).cell 6, (Ext.blk h (BlkN (by simp))).cell 7, (Ext.blk h (BlkN (by simp))).cell 8, (Ext.blk h (BlkN (by simp))).cell 9⟩ : (fun w' : World => Ext ((w.alloc (.cells #[.int .i64 order, .int .i64 status, .int .i64 prior, .int .i64 cur, .int .i64 tax, .slice (some ⟨b, o, none⟩) n c, .int .i64 paid, .int .i64 refunded, .int .i64 events, .int .i64 refused, .int .i64 stamp, .string who] 25)).alloc (.cells #[.int .i64 ek, .int .i64 eo, .int .i64 ei, .int .i64 eq, .int .i64 ep, .int .i64 ec, .int .i64 et, .string ew, .int .i64 es, .string en] 28)) w' ∧ w'.cell? ⟨w.heap.size, 0, none⟩ = some (.int .i64 order) ∧ w'.cell? ⟨w.heap.size, 1, none⟩ = some (.int .i64 status) ∧ w'.cell? ⟨w.heap.size, 2, none⟩ = some (.int .i64 prior) ∧ w'.cell? ⟨w.heap.size, 3, none⟩ = some (.int .i64 cur) ∧ w'.cell? ⟨w.heap.size, 4, none⟩ = some (.int .i64 tax) ∧ w'.cell? ⟨w.heap.size, 5, none⟩ = some (.slice (some ⟨b, o, none⟩) n c) ∧ w'.cell? ⟨w.heap.size, 6, none⟩ = some (.int .i64 paid) ∧ w'.cell? ⟨w.heap.size, 7, none⟩ = some (.int .i64 refunded) ∧ w'.cell? ⟨w.heap.size, 8, none⟩ = some (.int .i64 events) ∧ w'.cell? ⟨w.heap.size, 9, none⟩ = some (.int .i64 refused) ∧ w'.cell? ⟨w.heap.size, 10, none⟩ = some (.int .i64 stamp) ∧ w'.cell? ⟨w.heap.size, 11, none⟩ = some (.string who) ∧ w'.cell? ⟨w.heap.size + 1, 0, none⟩ = some (.int .i64 ek) ∧ w'.cell? ⟨w.heap.size + 1, 1, none⟩ = some (.int .i64 eo) ∧ w'.cell? ⟨w.heap.size + 1, 2, none⟩ = some (.int .i64 ei) ∧ w'.cell? ⟨w.heap.size + 1, 3, none⟩ = some (.int .i64 eq) ∧ w'.cell? ⟨w.heap.size + 1, 4, none⟩ = some (.int .i64 ep) ∧ w'.cell? ⟨w.heap.size + 1, 5, none⟩ = some (.int .i64 ec) ∧ w'.cell? ⟨w.heap.size + 1, 6, none⟩ = some (.int .i64 et) ∧ w'.cell? ⟨w.heap.size + 1, 7, none⟩ = some (.string ew) ∧ w'.cell? ⟨w.heap.size + 1, 8, none⟩ = some (.int .i64 es) ∧ w'.cell? ⟨w.heap.size + 1, 9, none⟩ = some (.string en)) w'))
  have hs1 : status ≠ 0 := by omega
  have s1 : (status == 0) = false := by simp; exact hs1
  have s2 : (status != 0) = true := by simp; exact hs1
  have e1 : (ek == 1) = false := by simp; omega
  have e2 : (ek == 2) = false := by simp; omega
  have e3 : (ek == 3) = false := by simp; omega
  have e4 : (ek == 4) = false := by simp; omega
  have e6 : (ek == 6) = true := by simp; omega
  have e7 : (ek == 7) = false := by simp; omega
  clear hkk hst hs1
  refine (Classical.em (lq < eq)).elim ?aa ?bb
  case' aa => intro hgt
  case' bb =>
    intro hgt
    have hgf : decide (lq < eq) = false := decide_eq_false hgt
  all_goals
    go_enter Try.func25, Try.ntmps25
    go_wp2_with (first
      | (go_at_call 16; (with_reducible refine (K1.out _ (hr.ext exA)).mono ?_); rintro e w1 ⟨rfl, hx1⟩; have h3 := HS.out w1 exA; go_split_ands)
      | (go_at_call 19; (with_reducible refine (K2.out _).mono ?_); rintro e w2 ⟨r, rfl, hr0, hx2⟩; obtain rfl : r = 0 := hr0.2 (by trivial); have h3 := HS.out w2 exA; go_split_ands)
      | (go_at_call 17; (with_reducible refine (K3.out _ (hr.ext exA)).mono ?_); rintro e w3 ⟨rfl, hx3⟩; have h3 := HS.out w3 exA; go_split_ands)
      | (go_at_call 45; (with_reducible refine (K4.out _ (hr.ext exA)).mono ?_); rintro e w4 ⟨rfl, hx4⟩; have h3 := HS.out w4 exA; go_split_ands; have y1 : Ext w w4 := exA; have r1 := range_ext Hc.out y1; have d1 : w4.cell? ⟨b, o + P * 4 + 1, none⟩ = some (.int .i64 lp) := r1 1 _ rfl; have d2 : w4.cell? ⟨b, o + P * 4 + 2, none⟩ = some (.int .i64 lq) := r1 2 _ rfl; have d3 : w4.cell? ⟨b, o + P * 4 + 3, none⟩ = some (.int .i64 lsh) := r1 3 _ rfl; clear r1))
    all_goals try (go_ret; refine ⟨?_, exA⟩; rw [Hv.out]; clear K1 K2 K3 K4 KD HS; (first | (simp only [beq_iff_eq, beq_eq_false_iff_ne, ne_eq, bne_iff_ne, bne_eq_false_iff_eq] at *) | skip); first | rfl | (simp [*, beq_dec]; done) | (simp [*, beq_dec]; omega) | (simp [*, beq_dec]; split <;> omega) | (simp [*, beq_dec]; split <;> split <;> omega))
    all_goals
      go_quiet (fail)
      go_wp2_with fail
      all_goals try (go_ret; refine ⟨?_, exA⟩; rw [Hv.out]; clear K1 K2 K3 K4 KD HS; (first | (simp only [beq_iff_eq, beq_eq_false_iff_ne, ne_eq, bne_iff_ne, bne_eq_false_iff_eq] at *) | skip); first | rfl | (simp [*, beq_dec]; done) | (simp [*, beq_dec]; omega) | (simp [*, beq_dec]; split <;> omega) | (simp [*, beq_dec]; split <;> split <;> omega))
    all_goals
      go_quiet (fail)
      go_wp2_with fail
      all_goals try (go_ret; refine ⟨?_, exA⟩; rw [Hv.out]; clear K1 K2 K3 K4 KD HS; (first | (simp only [beq_iff_eq, beq_eq_false_iff_ne, ne_eq, bne_iff_ne, bne_eq_false_iff_eq] at *) | skip); first | rfl | (simp [*, beq_dec]; done) | (simp [*, beq_dec]; omega) | (simp [*, beq_dec]; split <;> omega) | (simp [*, beq_dec]; split <;> split <;> omega))
    all_goals first
      | (go_quiet (fail)
         go_wp2_with fail
         all_goals (go_ret; refine ⟨?_, exA⟩; rw [Hv.out]; clear K1 K2 K3 K4 KD HS; (first | (simp only [beq_iff_eq, beq_eq_false_iff_ne, ne_eq, bne_iff_ne, bne_eq_false_iff_eq] at *) | skip); first | rfl | (simp [*, beq_dec]; done) | (simp [*, beq_dec]; omega) | (simp [*, beq_dec]; split <;> omega) | (simp [*, beq_dec]; split <;> split <;> omega)))
      | ((go_region_held3 (fun w' : World => Ext ((w.alloc (.cells #[.int .i64 order, .int .i64 status, .int .i64 prior, .int .i64 cur, .int .i64 tax, .slice (some ⟨b, o, none⟩) n c, .int .i64 paid, .int .i64 refunded, .int .i64 events, .int .i64 refused, .int .i64 stamp, .string who] 25)).alloc (.cells #[.int .i64 ek, .int .i64 eo, .int .i64 ei, .int .i64 eq, .int .i64 ep, .int .i64 ec, .int .i64 et, .string ew, .int .i64 es, .string en] 28)) w' ∧ w'.cell? ⟨w.heap.size, 0, none⟩ = some (.int .i64 order) ∧ w'.cell? ⟨w.heap.size, 1, none⟩ = some (.int .i64 status) ∧ w'.cell? ⟨w.heap.size, 2, none⟩ = some (.int .i64 prior) ∧ w'.cell? ⟨w.heap.size, 3, none⟩ = some (.int .i64 cur) ∧ w'.cell? ⟨w.heap.size, 4, none⟩ = some (.int .i64 tax) ∧ w'.cell? ⟨w.heap.size, 5, none⟩ = some (.slice (some ⟨b, o, none⟩) n c) ∧ w'.cell? ⟨w.heap.size, 6, none⟩ = some (.int .i64 paid) ∧ w'.cell? ⟨w.heap.size, 7, none⟩ = some (.int .i64 refunded) ∧ w'.cell? ⟨w.heap.size, 8, none⟩ = some (.int .i64 events) ∧ w'.cell? ⟨w.heap.size, 9, none⟩ = some (.int .i64 refused) ∧ w'.cell? ⟨w.heap.size, 10, none⟩ = some (.int .i64 stamp) ∧ w'.cell? ⟨w.heap.size, 11, none⟩ = some (.string who) ∧ w'.cell? ⟨w.heap.size + 1, 0, none⟩ = some (.int .i64 ek) ∧ w'.cell? ⟨w.heap.size + 1, 1, none⟩ = some (.int .i64 eo) ∧ w'.cell? ⟨w.heap.size + 1, 2, none⟩ = some (.int .i64 ei) ∧ w'.cell? ⟨w.heap.size + 1, 3, none⟩ = some (.int .i64 eq) ∧ w'.cell? ⟨w.heap.size + 1, 4, none⟩ = some (.int .i64 ep) ∧ w'.cell? ⟨w.heap.size + 1, 5, none⟩ = some (.int .i64 ec) ∧ w'.cell? ⟨w.heap.size + 1, 6, none⟩ = some (.int .i64 et) ∧ w'.cell? ⟨w.heap.size + 1, 7, none⟩ = some (.string ew) ∧ w'.cell? ⟨w.heap.size + 1, 8, none⟩ = some (.int .i64 es) ∧ w'.cell? ⟨w.heap.size + 1, 9, none⟩ = some (.string en))
  (exact HS.out _ exA)
  (first
    | (go_at_call 24; (with_reducible refine (KD.out _ (hr.ext exA)).mono ?_); rintro e w5 ⟨rfl, hx5⟩)))
         (try go_split_ands)
         go_wp2_with fail
         all_goals (go_ret; refine ⟨?_, exA⟩; rw [Hv.out]; clear K1 K2 K3 K4 KD HS; (first | (simp only [beq_iff_eq, beq_eq_false_iff_ne, ne_eq, bne_iff_ne, bne_eq_false_iff_eq] at *) | skip); first | rfl | (simp [*, beq_dec]; done) | (simp [*, beq_dec]; omega) | (simp [*, beq_dec]; split <;> omega) | (simp [*, beq_dec]; split <;> split <;> omega)))
      | fail
set_option maxRecDepth 100000 in
set_option maxHeartbeats 8000000 in
theorem rjudge_yes_7 (s : St) (e : Ev) (A : Option Addr) (c : Nat) (w : World) (hr : LsRd w A s.lines) (hw : s.who.size ≤ 4611686018427387904) (hw2 : e.who.size ≤ 4611686018427387904) (hw3 : e.note.size ≤ 4611686018427387904) (hB : validB s = true) (hC : check5 e = 0) (hev : s.events ≠ 1099511627776) (hor : e.order = s.order) (hU : useB s e.kind = true) (ht : thereB e.item s.lines = true) (hkk : e.kind = 7) :
    Calls Try.prog 25 #[.agg (stcells s A c), .agg (evcells e)] w fun e' w' => e' = .returned (.int .i64 (amt s e)) ∧ Ext w w' := by
  have hv := valid_iff.1 hB
  have he := event_iff.1 hC
  have hlen := hv.len
  have K1 := Lib.hid fun W (h : LsRd W A s.lines) => rvalid_any s A c W h (by omega) hw
  have K2 := Lib.hid fun W => rcheck5_any e W hw2 hw3
  have K3 := Lib.hid fun W (h : LsRd W A s.lines) => ruse_any s e.kind A c W h (fun l hl => (lnB_iff.1 (rises_mem hv.rises l hl).1).2.2.2.1) (by omega)
  have K4 := Lib.hid fun W (h : LsRd W A s.lines) => rat_any s e.item A c W h hv.rises (by omega)
  have KD := Lib.hid fun W (h : LsRd W A s.lines) => rdue_any s A c W h (fun l hl => (rises_mem hv.rises l hl).1) hv.len hv.tax
  obtain ⟨hP, hline⟩ := line_there hv.rises ht
  obtain ⟨b, o, rfl, hc⟩ := ls_at hr hP
  have Hl := (lnB_iff.1 (rises_mem hv.rises _ (List.getElem_mem hP)).1).2
  obtain ⟨l, hl⟩ : ∃ l, l = s.lines[posOf e.item s.lines]'hP := ⟨_, rfl⟩
  rw [← hl] at Hl hline hc
  clear hl
  have Hv : Hid (amt s e = if ((e.kind = 2 ∨ e.kind = 6 ∨ e.kind = 4) ∧ e.qty = 0) ∨ ((e.kind = 3 ∨ e.kind = 7) ∧ e.price = 0) then 6
    else if e.kind = 2 ∧ l.price ≠ e.price then 8
      else if (e.kind = 2 ∧ 100000 < l.qty + e.qty) ∨ (e.kind = 6 ∧ l.qty < e.qty) ∨ (e.kind = 4 ∧ l.qty - l.shipped < e.qty) then 10
      else if (e.kind = 3 ∧ due s < s.paid + e.price) ∨ (e.kind = 7 ∧ s.paid < s.refunded + e.price) then 10 else 0) := Lib.hid (by unfold amt; rw [hline])
  have hb := net_bound fun l hl => (rises_mem hv.rises l hl).1
  have hx := tax_bound hb.1 hv.tax.1 hv.tax.2
  have hdu : due s = net s.lines + taxOf (net s.lines) s.tax := rfl
  have hp := hv.paid
  have hrf := hv.refunded
  have hpr := he.price
  have hqt := he.qty
  have hk := he.kind
  have hD : 0 ≤ s.paid ∧ s.paid ≤ 320000000000000 := by omega
  clear hb hx hdu hp
  rw [hB] at K1
  rw [hC] at K2
  rw [hU] at K3
  rw [atI_yes ht] at K4
  have hst : (e.kind = 1 ∧ s.status = 0) ∨ (e.kind ≠ 1 ∧ s.status ≠ 0) := by
    have h := hU
    unfold useB at h
    repeat' split at h
    all_goals (simp only [decide_eq_true_eq, Bool.or_eq_true, Bool.and_eq_true] at h; omega)
  generalize posOf e.item s.lines = P at *
  generalize due s = D at *
  generalize amt s e = R at *
  clear hv he ht hB hC hU hline
  obtain ⟨order, status, prior, cur, tax, ls, paid, refunded, events, refused, stamp, who⟩ := s
  obtain ⟨ek, eo, ei, eq, ep, ec, et, ew, es, en⟩ := e
  obtain ⟨li, lp, lq, lsh⟩ := l
  unfold stcells evcells at *
  unfold lncells at hc
  dsimp only at *
  have o1 : (eo != order) = false := by simp; exact hor
  clear hor
  have Hc := Lib.hid hc
  clear hc
  obtain ⟨hl1, hl2, hl3⟩ := Hl
  generalize ls.length = n at *
  have hw1 : IntKind.i64.wrap (paid + ep) = paid + ep := by rw [IntKind.wrap_i64]; omega
  have hw4 : IntKind.i64.wrap (refunded + ep) = refunded + ep := by rw [IntKind.wrap_i64]; omega
  have hv1 : (events == 1099511627776) = false := by simp; exact hev
  clear hev
  have hw2 : IntKind.i64.wrap (lq + eq) = lq + eq := by rw [IntKind.wrap_i64]; omega
  have hw3 : IntKind.i64.wrap (lq - lsh) = lq - lsh := by rw [IntKind.wrap_i64]; omega
  have hwP : IntKind.i64.wrap (P : Int) = (P : Int) := by rw [IntKind.wrap_i64]; omega
  have hPn : (P : Int) < (n : Int) := by omega
  have hP0 : (0 : Int) ≤ (P : Int) := by omega
  have HS := Lib.hid (fun w' (h : Ext ((w.alloc (.cells #[.int .i64 order, .int .i64 status, .int .i64 prior, .int .i64 cur, .int .i64 tax, .slice (some ⟨b, o, none⟩) n c, .int .i64 paid, .int .i64 refunded, .int .i64 events, .int .i64 refused, .int .i64 stamp, .string who] 25)).alloc (.cells #[.int .i64 ek, .int .i64 eo, .int .i64 ei, .int .i64 eq, .int .i64 ep, .int .i64 ec, .int .i64 et, .string ew, .int .i64 es, .string en] 28)) w') => (⟨h, (Ext.blk h (BlkA (BlkN rfl))).cell 0, (Ext.blk h (BlkA (BlkN rfl))).cell 1, (Ext.blk h (BlkA (BlkN rfl))).cell 2, (Ext.blk h (BlkA (BlkN rfl))).cell 3, (Ext.blk h (BlkA (BlkN rfl))).cell 4, (Ext.blk h (BlkA (BlkN rfl))).cell 5, (Ext.blk h (BlkA (BlkN rfl))).cell 6, (Ext.blk h (BlkA (BlkN rfl))).cell 7, (Ext.blk h (BlkA (BlkN rfl))).cell 8, (Ext.blk h (BlkA (BlkN rfl))).cell 9, (Ext.blk h (BlkA (BlkN rfl))).cell 10, (Ext.blk h (BlkA (BlkN rfl))).cell 11, (Ext.blk h (BlkN (by simp))).cell 0, (Ext.blk h (BlkN (by simp))).cell 1, (Ext.blk h (BlkN (by simp))).cell 2, (Ext.blk h (BlkN (by simp))).cell 3, (Ext.blk h (BlkN (by simp))).cell 4, (Ext.blk h (BlkN (by simp))).cell 5, (Ext.blk h (BlkN (by simp))).cell 6, (Ext.blk h (BlkN (by simp))).cell 7, (Ext.blk h (BlkN (by simp))).cell 8, (Ext.blk h (BlkN (by simp))).cell 9⟩ : (fun w' : World => Ext ((w.alloc (.cells #[.int .i64 order, .int .i64 status, .int .i64 prior, .int .i64 cur, .int .i64 tax, .slice (some ⟨b, o, none⟩) n c, .int .i64 paid, .int .i64 refunded, .int .i64 events, .int .i64 refused, .int .i64 stamp, .string who] 25)).alloc (.cells #[.int .i64 ek, .int .i64 eo, .int .i64 ei, .int .i64 eq, .int .i64 ep, .int .i64 ec, .int .i64 et, .string ew, .int .i64 es, .string en] 28)) w' ∧ w'.cell? ⟨w.heap.size, 0, none⟩ = some (.int .i64 order) ∧ w'.cell? ⟨w.heap.size, 1, none⟩ = some (.int .i64 status) ∧ w'.cell? ⟨w.heap.size, 2, none⟩ = some (.int .i64 prior) ∧ w'.cell? ⟨w.heap.size, 3, none⟩ = some (.int .i64 cur) ∧ w'.cell? ⟨w.heap.size, 4, none⟩ = some (.int .i64 tax) ∧ w'.cell? ⟨w.heap.size, 5, none⟩ = some (.slice (some ⟨b, o, none⟩) n c) ∧ w'.cell? ⟨w.heap.size, 6, none⟩ = some (.int .i64 paid) ∧ w'.cell? ⟨w.heap.size, 7, none⟩ = some (.int .i64 refunded) ∧ w'.cell? ⟨w.heap.size, 8, none⟩ = some (.int .i64 events) ∧ w'.cell? ⟨w.heap.size, 9, none⟩ = some (.int .i64 refused) ∧ w'.cell? ⟨w.heap.size, 10, none⟩ = some (.int .i64 stamp) ∧ w'.cell? ⟨w.heap.size, 11, none⟩ = some (.string who) ∧ w'.cell? ⟨w.heap.size + 1, 0, none⟩ = some (.int .i64 ek) ∧ w'.cell? ⟨w.heap.size + 1, 1, none⟩ = some (.int .i64 eo) ∧ w'.cell? ⟨w.heap.size + 1, 2, none⟩ = some (.int .i64 ei) ∧ w'.cell? ⟨w.heap.size + 1, 3, none⟩ = some (.int .i64 eq) ∧ w'.cell? ⟨w.heap.size + 1, 4, none⟩ = some (.int .i64 ep) ∧ w'.cell? ⟨w.heap.size + 1, 5, none⟩ = some (.int .i64 ec) ∧ w'.cell? ⟨w.heap.size + 1, 6, none⟩ = some (.int .i64 et) ∧ w'.cell? ⟨w.heap.size + 1, 7, none⟩ = some (.string ew) ∧ w'.cell? ⟨w.heap.size + 1, 8, none⟩ = some (.int .i64 es) ∧ w'.cell? ⟨w.heap.size + 1, 9, none⟩ = some (.string en)) w'))
  have hs1 : status ≠ 0 := by omega
  have s1 : (status == 0) = false := by simp; exact hs1
  have s2 : (status != 0) = true := by simp; exact hs1
  have e1 : (ek == 1) = false := by simp; omega
  have e2 : (ek == 2) = false := by simp; omega
  have e3 : (ek == 3) = false := by simp; omega
  have e4 : (ek == 4) = false := by simp; omega
  have e6 : (ek == 6) = false := by simp; omega
  have e7 : (ek == 7) = true := by simp; omega
  clear hkk hst hs1
  go_enter Try.func25, Try.ntmps25
  go_wp2_with (first
    | (go_at_call 16; (with_reducible refine (K1.out _ (hr.ext exA)).mono ?_); rintro e w1 ⟨rfl, hx1⟩; have h3 := HS.out w1 exA; go_split_ands)
    | (go_at_call 19; (with_reducible refine (K2.out _).mono ?_); rintro e w2 ⟨r, rfl, hr0, hx2⟩; obtain rfl : r = 0 := hr0.2 (by trivial); have h3 := HS.out w2 exA; go_split_ands)
    | (go_at_call 17; (with_reducible refine (K3.out _ (hr.ext exA)).mono ?_); rintro e w3 ⟨rfl, hx3⟩; have h3 := HS.out w3 exA; go_split_ands)
    | (go_at_call 45; (with_reducible refine (K4.out _ (hr.ext exA)).mono ?_); rintro e w4 ⟨rfl, hx4⟩; have h3 := HS.out w4 exA; go_split_ands; have y1 : Ext w w4 := exA; have r1 := range_ext Hc.out y1; have d1 : w4.cell? ⟨b, o + P * 4 + 1, none⟩ = some (.int .i64 lp) := r1 1 _ rfl; have d2 : w4.cell? ⟨b, o + P * 4 + 2, none⟩ = some (.int .i64 lq) := r1 2 _ rfl; have d3 : w4.cell? ⟨b, o + P * 4 + 3, none⟩ = some (.int .i64 lsh) := r1 3 _ rfl; clear r1))
  all_goals try (go_ret; refine ⟨?_, exA⟩; rw [Hv.out]; clear K1 K2 K3 K4 KD HS; (first | (simp only [beq_iff_eq, beq_eq_false_iff_ne, ne_eq, bne_iff_ne, bne_eq_false_iff_eq] at *) | skip); first | rfl | (simp [*, beq_dec]; done) | (simp [*, beq_dec]; omega) | (simp [*, beq_dec]; split <;> omega) | (simp [*, beq_dec]; split <;> split <;> omega))
  all_goals
    go_quiet (fail)
    go_wp2_with fail
    all_goals try (go_ret; refine ⟨?_, exA⟩; rw [Hv.out]; clear K1 K2 K3 K4 KD HS; (first | (simp only [beq_iff_eq, beq_eq_false_iff_ne, ne_eq, bne_iff_ne, bne_eq_false_iff_eq] at *) | skip); first | rfl | (simp [*, beq_dec]; done) | (simp [*, beq_dec]; omega) | (simp [*, beq_dec]; split <;> omega) | (simp [*, beq_dec]; split <;> split <;> omega))
  all_goals
    go_quiet (fail)
    go_wp2_with fail
    all_goals try (go_ret; refine ⟨?_, exA⟩; rw [Hv.out]; clear K1 K2 K3 K4 KD HS; (first | (simp only [beq_iff_eq, beq_eq_false_iff_ne, ne_eq, bne_iff_ne, bne_eq_false_iff_eq] at *) | skip); first | rfl | (simp [*, beq_dec]; done) | (simp [*, beq_dec]; omega) | (simp [*, beq_dec]; split <;> omega) | (simp [*, beq_dec]; split <;> split <;> omega))
  all_goals first
    | (go_quiet (fail)
       go_wp2_with fail
       all_goals (go_ret; refine ⟨?_, exA⟩; rw [Hv.out]; clear K1 K2 K3 K4 KD HS; (first | (simp only [beq_iff_eq, beq_eq_false_iff_ne, ne_eq, bne_iff_ne, bne_eq_false_iff_eq] at *) | skip); first | rfl | (simp [*, beq_dec]; done) | (simp [*, beq_dec]; omega) | (simp [*, beq_dec]; split <;> omega) | (simp [*, beq_dec]; split <;> split <;> omega)))
    | ((go_region_held3 (fun w' : World => Ext ((w.alloc (.cells #[.int .i64 order, .int .i64 status, .int .i64 prior, .int .i64 cur, .int .i64 tax, .slice (some ⟨b, o, none⟩) n c, .int .i64 paid, .int .i64 refunded, .int .i64 events, .int .i64 refused, .int .i64 stamp, .string who] 25)).alloc (.cells #[.int .i64 ek, .int .i64 eo, .int .i64 ei, .int .i64 eq, .int .i64 ep, .int .i64 ec, .int .i64 et, .string ew, .int .i64 es, .string en] 28)) w' ∧ w'.cell? ⟨w.heap.size, 0, none⟩ = some (.int .i64 order) ∧ w'.cell? ⟨w.heap.size, 1, none⟩ = some (.int .i64 status) ∧ w'.cell? ⟨w.heap.size, 2, none⟩ = some (.int .i64 prior) ∧ w'.cell? ⟨w.heap.size, 3, none⟩ = some (.int .i64 cur) ∧ w'.cell? ⟨w.heap.size, 4, none⟩ = some (.int .i64 tax) ∧ w'.cell? ⟨w.heap.size, 5, none⟩ = some (.slice (some ⟨b, o, none⟩) n c) ∧ w'.cell? ⟨w.heap.size, 6, none⟩ = some (.int .i64 paid) ∧ w'.cell? ⟨w.heap.size, 7, none⟩ = some (.int .i64 refunded) ∧ w'.cell? ⟨w.heap.size, 8, none⟩ = some (.int .i64 events) ∧ w'.cell? ⟨w.heap.size, 9, none⟩ = some (.int .i64 refused) ∧ w'.cell? ⟨w.heap.size, 10, none⟩ = some (.int .i64 stamp) ∧ w'.cell? ⟨w.heap.size, 11, none⟩ = some (.string who) ∧ w'.cell? ⟨w.heap.size + 1, 0, none⟩ = some (.int .i64 ek) ∧ w'.cell? ⟨w.heap.size + 1, 1, none⟩ = some (.int .i64 eo) ∧ w'.cell? ⟨w.heap.size + 1, 2, none⟩ = some (.int .i64 ei) ∧ w'.cell? ⟨w.heap.size + 1, 3, none⟩ = some (.int .i64 eq) ∧ w'.cell? ⟨w.heap.size + 1, 4, none⟩ = some (.int .i64 ep) ∧ w'.cell? ⟨w.heap.size + 1, 5, none⟩ = some (.int .i64 ec) ∧ w'.cell? ⟨w.heap.size + 1, 6, none⟩ = some (.int .i64 et) ∧ w'.cell? ⟨w.heap.size + 1, 7, none⟩ = some (.string ew) ∧ w'.cell? ⟨w.heap.size + 1, 8, none⟩ = some (.int .i64 es) ∧ w'.cell? ⟨w.heap.size + 1, 9, none⟩ = some (.string en))
  (exact HS.out _ exA)
  (first
    | (go_at_call 24; (with_reducible refine (KD.out _ (hr.ext exA)).mono ?_); rintro e w5 ⟨rfl, hx5⟩)))
       (try go_split_ands)
       go_wp2_with fail
       all_goals (go_ret; refine ⟨?_, exA⟩; rw [Hv.out]; clear K1 K2 K3 K4 KD HS; (first | (simp only [beq_iff_eq, beq_eq_false_iff_ne, ne_eq, bne_iff_ne, bne_eq_false_iff_eq] at *) | skip); first | rfl | (simp [*, beq_dec]; done) | (simp [*, beq_dec]; omega) | (simp [*, beq_dec]; split <;> omega) | (simp [*, beq_dec]; split <;> split <;> omega)))
    | fail
theorem rjudge_yes (s : St) (e : Ev) (A : Option Addr) (c : Nat) (w : World) (hr : LsRd w A s.lines) (hw : s.who.size ≤ 4611686018427387904) (hw2 : e.who.size ≤ 4611686018427387904) (hw3 : e.note.size ≤ 4611686018427387904) (hB : validB s = true) (hC : check5 e = 0) (hev : s.events ≠ 1099511627776) (hor : e.order = s.order) (hU : useB s e.kind = true) (ht : thereB e.item s.lines = true) :
    Calls Try.prog 25 #[.agg (stcells s A c), .agg (evcells e)] w fun e' w' => e' = .returned (.int .i64 (amt s e)) ∧ Ext w w' := by
  by_cases h2 : e.kind = 2
  · exact rjudge_yes_2 s e A c w hr hw hw2 hw3 hB hC hev hor hU ht h2
  by_cases h3 : e.kind = 3
  · exact rjudge_yes_3 s e A c w hr hw hw2 hw3 hB hC hev hor hU ht h3
  by_cases h4 : e.kind = 4
  · exact rjudge_yes_4 s e A c w hr hw hw2 hw3 hB hC hev hor hU ht h4
  by_cases h6 : e.kind = 6
  · exact rjudge_yes_6 s e A c w hr hw hw2 hw3 hB hC hev hor hU ht h6
  by_cases h7 : e.kind = 7
  · exact rjudge_yes_7 s e A c w hr hw hw2 hw3 hB hC hev hor hU ht h7
  exact rjudge_yes_o s e A c w hr hw hw2 hw3 hB hC hev hor hU ht ⟨h2, h3, h4, h6, h7⟩
end Go.Proofs.Ytlpjhnecihhkfaa
