/-
  The walk of the reference's Valid.
-/
import Derived.Test.YtlpjhnecihhkfaaOrdRb
import Derived.Test.YtlpjhnecihhkfaaOrdRc4
import Derived.Test.YtlpjhnecihhkfaaOrdC
namespace Go.Proofs.Ytlpjhnecihhkfaa
open Go.RowKit
set_option linter.unusedVariables false
set_option linter.unusedSimpArgs false
theorem who_nil (s : ByteArray) : s.toList = [] ↔ s = ByteArray.empty := by
  rw [← List.isEmpty_iff, who_empty]
  simp
set_option maxRecDepth 100000 in
set_option maxHeartbeats 4000000 in
theorem rvalid_any (s : St) (A : Option Addr) (c : Nat) (w : World) (hr : LsRd w A s.lines) (hn : s.lines.length ≤ 4611686018427387904) (hw : s.who.size ≤ 4611686018427387904) :
    Calls Try.prog 16 #[.agg (stcells s A c)] w fun e w' => e = .returned (.bool (validB s)) ∧ Ext w w' := by
  have KC : Hid (∀ W, Calls Try.prog 19 #[.int .i64 4, .agg (evcells ⟨1, 1, 0, 0, 0, 0, 0, s.who, 0, ⟨#[]⟩⟩)] W fun e' w' => ∃ r : Int, e' = .returned (.int .i64 r) ∧ (r = 0 ↔ namedB s.who = true) ∧ Ext W w') := Lib.hid fun W => by
    refine (rcheck4 ⟨1, 1, 0, 0, 0, 0, 0, s.who, 0, ⟨#[]⟩⟩ W hw (Nat.zero_le _)).mono ?_
    rintro e' w' ⟨r, he, hr, hx⟩
    exact ⟨r, he, hr.trans rok4, hx⟩
  have KL := Lib.hid fun W (h : LsRd W A s.lines) => rlines_any s A c W h hn
  have KD : Hid (linedB s.lines = true → 0 ≤ s.tax ∧ s.tax ≤ 5000 → ∀ W, LsRd W A s.lines → Calls Try.prog 24 #[.agg (stcells s A c)] W fun e w' => e = .returned (.int .i64 (due s)) ∧ Ext W w') := Lib.hid fun hb ht W h => by
    simp only [linedB, and_t, decide_eq_true_eq] at hb
    exact rdue_any s A c W h (fun l hl => (rises_mem hb.2 l hl).1) hb.1 ht
  have KS := Lib.hid fun W => stands_any s A c W
  have KU : Hid (linedB s.lines = true → ∀ W, LsRd W A s.lines → Calls Try.prog 33 #[.agg (stcells s A c)] W fun e w' => e = .returned (.bool (noneB s.lines)) ∧ Ext W w') := Lib.hid fun hb W h => by
    simp only [linedB, and_t, decide_eq_true_eq] at hb
    exact untouched_any s A c W h (fun l hl => (lnB_iff.1 (rises_mem hb.2 l hl).1).2.2.2.1) hn
  have KW : Hid (linedB s.lines = true → ∀ W, LsRd W A s.lines → Calls Try.prog 34 #[.agg (stcells s A c)] W fun e w' => e = .returned (.bool (allB s.lines)) ∧ Ext W w') := Lib.hid fun hb W h => by
    simp only [linedB, and_t, decide_eq_true_eq] at hb
    exact whole_any s A c W h (fun l hl => (lnB_iff.1 (rises_mem hb.2 l hl).1).2.2.2.2) hn
  have HV : Hid (validB s = (wi s.order 1 1099511627776 && wi s.status 0 5 && wi s.cur 0 3 && wi s.tax 0 5000 && linedB s.lines && wi s.refunded 0 s.paid && wi s.events 0 1099511627776 && wi s.refused 0 s.events && wi s.stamp 0 1099511627776 && namedB s.who && decide (s.paid ≤ due s) && priorB s && standsB s (standsAt s))) := Lib.hid rfl
  have HP : Hid (priorB s = if s.status = 2 then decide (s.prior = 1 ∨ s.prior = 3) else decide (s.prior = 0)) := Lib.hid rfl
  have HB := Lib.hid (show standsB s (standsAt s) = (if standsAt s = 0 then decide (s.lines.length = 0) && decide (s.cur = 0 ∧ s.tax = 0 ∧ s.events = s.refused ∧ s.stamp = 0) && decide (s.who.size = 0)
    else if standsAt s = 1 then noneB s.lines && !(decide (s.paid = due s ∧ 0 < s.paid)) && decide (s.refunded = 0)
    else if standsAt s = 3 then decide (s.paid = due s ∧ 0 < s.paid) && !allB s.lines
    else if standsAt s = 4 then decide (s.paid = due s ∧ 0 < s.paid) && allB s.lines
    else noneB s.lines) from by unfold standsB fullB; simp only [List.length_eq_zero_iff])
  have HD0 : Hid (s.lines.length = 0 → due s = 0) := Lib.hid fun h => by
    have : s.lines = [] := List.eq_nil_of_length_eq_zero h
    unfold due; rw [this]; simp [net, taxOf]
  generalize standsB s (standsAt s) = SB at *
  generalize standsAt s = AT at *
  generalize priorB s = PB at *
  generalize validB s = VB at *
  generalize noneB s.lines = NB at *
  generalize allB s.lines = AB at *
  generalize linedB s.lines = LB at *
  generalize due s = D at *
  generalize hNM : namedB s.who = NM at *
  clear hNM
  obtain ⟨order, status, prior, cur, tax, ls, paid, refunded, events, refused, stamp, who⟩ := s
  unfold stcells evcells at *
  dsimp only at *
  generalize ls.length = n at *
  have HVT : Hid (VB = true → (1 ≤ order ∧ order ≤ 1099511627776) ∧ (0 ≤ status ∧ status ≤ 5) ∧ (0 ≤ cur ∧ cur ≤ 3) ∧ (0 ≤ tax ∧ tax ≤ 5000) ∧ LB = true ∧ (0 ≤ refunded ∧ refunded ≤ paid) ∧ (0 ≤ events ∧ events ≤ 1099511627776) ∧ (0 ≤ refused ∧ refused ≤ events) ∧ (0 ≤ stamp ∧ stamp ≤ 1099511627776) ∧ NM = true ∧ paid ≤ D ∧ PB = true ∧ SB = true) := Lib.hid fun h => by
    rw [HV.out] at h
    simp only [and_t, wi_iff, decide_eq_true_eq] at h
    obtain ⟨⟨⟨⟨⟨⟨⟨⟨⟨⟨⟨⟨a1, a2⟩, a3⟩, a4⟩, a5⟩, a6⟩, a7⟩, a8⟩, a9⟩, a10⟩, a11⟩, a12⟩, a13⟩ := h
    exact ⟨a1, a2, a3, a4, a5, a6, a7, a8, a9, a10, a11, a12, a13⟩
  have HS := Lib.hid (fun w' (h : Ext (w.alloc (.cells #[.int .i64 order, .int .i64 status, .int .i64 prior, .int .i64 cur, .int .i64 tax, .slice A n c, .int .i64 paid, .int .i64 refunded, .int .i64 events, .int .i64 refused, .int .i64 stamp, .string who] 25)) w') => (⟨h, (Ext.blk h (BlkN rfl)).cell 0, (Ext.blk h (BlkN rfl)).cell 1, (Ext.blk h (BlkN rfl)).cell 2, (Ext.blk h (BlkN rfl)).cell 3, (Ext.blk h (BlkN rfl)).cell 4, (Ext.blk h (BlkN rfl)).cell 5, (Ext.blk h (BlkN rfl)).cell 6, (Ext.blk h (BlkN rfl)).cell 7, (Ext.blk h (BlkN rfl)).cell 8, (Ext.blk h (BlkN rfl)).cell 9, (Ext.blk h (BlkN rfl)).cell 10, (Ext.blk h (BlkN rfl)).cell 11⟩ : (fun w' : World => Ext (w.alloc (.cells #[.int .i64 order, .int .i64 status, .int .i64 prior, .int .i64 cur, .int .i64 tax, .slice A n c, .int .i64 paid, .int .i64 refunded, .int .i64 events, .int .i64 refused, .int .i64 stamp, .string who] 25)) w' ∧ w'.cell? ⟨w.heap.size, 0, none⟩ = some (.int .i64 order) ∧ w'.cell? ⟨w.heap.size, 1, none⟩ = some (.int .i64 status) ∧ w'.cell? ⟨w.heap.size, 2, none⟩ = some (.int .i64 prior) ∧ w'.cell? ⟨w.heap.size, 3, none⟩ = some (.int .i64 cur) ∧ w'.cell? ⟨w.heap.size, 4, none⟩ = some (.int .i64 tax) ∧ w'.cell? ⟨w.heap.size, 5, none⟩ = some (.slice A n c) ∧ w'.cell? ⟨w.heap.size, 6, none⟩ = some (.int .i64 paid) ∧ w'.cell? ⟨w.heap.size, 7, none⟩ = some (.int .i64 refunded) ∧ w'.cell? ⟨w.heap.size, 8, none⟩ = some (.int .i64 events) ∧ w'.cell? ⟨w.heap.size, 9, none⟩ = some (.int .i64 refused) ∧ w'.cell? ⟨w.heap.size, 10, none⟩ = some (.int .i64 stamp) ∧ w'.cell? ⟨w.heap.size, 11, none⟩ = some (.string who)) w'))
  go_enter Try.func16, Try.ntmps16
  go_wp2_with (first
    | (go_at_call 19; (with_reducible refine (KC.out _).mono ?_); rintro e w1 ⟨r, rfl, hr1, hx1⟩; have HRr := Lib.hid hr1; clear hr1; have h3 := HS.out w1 exA; go_split_ands)
    | (go_at_call 31; (with_reducible refine (KL.out _ (hr.ext exA)).mono ?_); rintro e w2 ⟨rfl, hx2⟩; have h3 := HS.out w2 exA; go_split_ands))
  all_goals first
    | ((go_ret; refine ⟨?_, exA⟩; have hvb : VB = false := (by cases hvb : VB with | false => rfl | true => exfalso; obtain ⟨f1, f2, f3, f4, f5, f6, f7, f8, f9, f10, f11, f12, f13⟩ := HVT.out hvb; (first | omega | (have h8 : (!LB) = true := (by assumption); rw [f5] at h8; simp at h8; done) | (have h9 := HRr.out.2 f10; omega) | (rw [HP.out] at f12; simp only [bne_iff_ne, ne_eq] at *; split at f12 <;> simp only [decide_eq_true_eq] at f12 <;> omega))); rw [hvb]; rfl); done)
    | skip
  have hLB : LB = true := by simpa using (by assumption : (!LB) = false)
  have Htx : Hid (0 ≤ tax ∧ tax ≤ 5000) := Lib.hid (by omega)
  by_cases r1 : refunded < 0
  · have t1 : decide (refunded < 0) = true := by simpa using r1
    (first | (go_quiet (fail)) | fail)
    all_goals (go_wp2_with fail)
    all_goals (go_ret; refine ⟨?_, exA⟩; have hvb : VB = false := (by cases hvb : VB with | false => rfl | true => exfalso; obtain ⟨f1, f2, f3, f4, f5, f6, f7, f8, f9, f10, f11, f12, f13⟩ := HVT.out hvb; (first | omega | (have h8 : (!LB) = true := (by assumption); rw [f5] at h8; simp at h8; done) | (have h9 := HRr.out.2 f10; omega) | (rw [HP.out] at f12; simp only [bne_iff_ne, ne_eq] at *; split at f12 <;> simp only [decide_eq_true_eq] at f12 <;> omega))); rw [hvb]; rfl)
  have t1 : decide (refunded < 0) = false := by simpa using r1
  by_cases r2 : paid < refunded
  · have t2 : decide (paid < refunded) = true := by simpa using r2
    (first | (go_quiet (fail)) | fail)
    all_goals (go_wp2_with fail)
    all_goals (go_ret; refine ⟨?_, exA⟩; have hvb : VB = false := (by cases hvb : VB with | false => rfl | true => exfalso; obtain ⟨f1, f2, f3, f4, f5, f6, f7, f8, f9, f10, f11, f12, f13⟩ := HVT.out hvb; (first | omega | (have h8 : (!LB) = true := (by assumption); rw [f5] at h8; simp at h8; done) | (have h9 := HRr.out.2 f10; omega) | (rw [HP.out] at f12; simp only [bne_iff_ne, ne_eq] at *; split at f12 <;> simp only [decide_eq_true_eq] at f12 <;> omega))); rw [hvb]; rfl)
  have t2 : decide (paid < refunded) = false := by simpa using r2
  have t3 : decide (paid < 0) = false := by simp; omega
  by_cases r4 : D < paid
  · have t4 : decide (D < paid) = true := by simpa using r4
    go_region_held3 (fun w' : World => Ext (w.alloc (.cells #[.int .i64 order, .int .i64 status, .int .i64 prior, .int .i64 cur, .int .i64 tax, .slice A n c, .int .i64 paid, .int .i64 refunded, .int .i64 events, .int .i64 refused, .int .i64 stamp, .string who] 25)) w' ∧ w'.cell? ⟨w.heap.size, 0, none⟩ = some (.int .i64 order) ∧ w'.cell? ⟨w.heap.size, 1, none⟩ = some (.int .i64 status) ∧ w'.cell? ⟨w.heap.size, 2, none⟩ = some (.int .i64 prior) ∧ w'.cell? ⟨w.heap.size, 3, none⟩ = some (.int .i64 cur) ∧ w'.cell? ⟨w.heap.size, 4, none⟩ = some (.int .i64 tax) ∧ w'.cell? ⟨w.heap.size, 5, none⟩ = some (.slice A n c) ∧ w'.cell? ⟨w.heap.size, 6, none⟩ = some (.int .i64 paid) ∧ w'.cell? ⟨w.heap.size, 7, none⟩ = some (.int .i64 refunded) ∧ w'.cell? ⟨w.heap.size, 8, none⟩ = some (.int .i64 events) ∧ w'.cell? ⟨w.heap.size, 9, none⟩ = some (.int .i64 refused) ∧ w'.cell? ⟨w.heap.size, 10, none⟩ = some (.int .i64 stamp) ∧ w'.cell? ⟨w.heap.size, 11, none⟩ = some (.string who)) (exact HS.out _ exA) ((go_at_call 24; (with_reducible refine (KD.out hLB Htx.out _ (hr.ext exA)).mono ?_); rintro e w3 ⟨rfl, hx3⟩; have h3 := HS.out w3 exA; go_split_ands))
    go_wp2_with fail
    all_goals (go_ret; refine ⟨?_, exA⟩; have hvb : VB = false := (by cases hvb : VB with | false => rfl | true => exfalso; obtain ⟨f1, f2, f3, f4, f5, f6, f7, f8, f9, f10, f11, f12, f13⟩ := HVT.out hvb; (first | omega | (have h8 : (!LB) = true := (by assumption); rw [f5] at h8; simp at h8; done) | (have h9 := HRr.out.2 f10; omega) | (rw [HP.out] at f12; simp only [bne_iff_ne, ne_eq] at *; split at f12 <;> simp only [decide_eq_true_eq] at f12 <;> omega))); rw [hvb]; rfl)
  have t4 : decide (D < paid) = false := by simpa using r4
  go_region_held3 (fun w' : World => Ext (w.alloc (.cells #[.int .i64 order, .int .i64 status, .int .i64 prior, .int .i64 cur, .int .i64 tax, .slice A n c, .int .i64 paid, .int .i64 refunded, .int .i64 events, .int .i64 refused, .int .i64 stamp, .string who] 25)) w' ∧ w'.cell? ⟨w.heap.size, 0, none⟩ = some (.int .i64 order) ∧ w'.cell? ⟨w.heap.size, 1, none⟩ = some (.int .i64 status) ∧ w'.cell? ⟨w.heap.size, 2, none⟩ = some (.int .i64 prior) ∧ w'.cell? ⟨w.heap.size, 3, none⟩ = some (.int .i64 cur) ∧ w'.cell? ⟨w.heap.size, 4, none⟩ = some (.int .i64 tax) ∧ w'.cell? ⟨w.heap.size, 5, none⟩ = some (.slice A n c) ∧ w'.cell? ⟨w.heap.size, 6, none⟩ = some (.int .i64 paid) ∧ w'.cell? ⟨w.heap.size, 7, none⟩ = some (.int .i64 refunded) ∧ w'.cell? ⟨w.heap.size, 8, none⟩ = some (.int .i64 events) ∧ w'.cell? ⟨w.heap.size, 9, none⟩ = some (.int .i64 refused) ∧ w'.cell? ⟨w.heap.size, 10, none⟩ = some (.int .i64 stamp) ∧ w'.cell? ⟨w.heap.size, 11, none⟩ = some (.string who)) (exact HS.out _ exA) ((go_at_call 24; (with_reducible refine (KD.out hLB Htx.out _ (hr.ext exA)).mono ?_); rintro e w3 ⟨rfl, hx3⟩; have h3 := HS.out w3 exA; go_split_ands))
  by_cases s2 : status = 2
  · have ts : (status == 2) = true := by simpa using s2
    have ts2 : (status != 2) = false := by simpa using s2
    by_cases q1 : prior = 1
    · have tq1 : (prior != 1) = false := by simpa using q1
      have HPB : Hid (PB = true) := Lib.hid (by rw [HP.out, if_pos s2]; simp [q1])
      clear q1 s2
      go_wp2_with fail
      have hNM : NM = true := HRr.out.1 (by assumption)
      have hVS : VB = SB := by
        rw [HV.out, HPB.out, hLB, hNM, show wi order 1 1099511627776 = true from wi_iff.2 (by omega), show wi status 0 5 = true from wi_iff.2 (by omega), show wi cur 0 3 = true from wi_iff.2 (by omega), show wi tax 0 5000 = true from wi_iff.2 (by omega), show wi refunded 0 paid = true from wi_iff.2 (by omega), show wi events 0 1099511627776 = true from wi_iff.2 (by omega), show wi refused 0 events = true from wi_iff.2 (by omega), show wi stamp 0 1099511627776 = true from wi_iff.2 (by omega), show decide (paid ≤ D) = true from by simp; omega]
        simp
      rw [HB.out] at hVS
      have HVS := Lib.hid hVS
      clear hVS
      by_cases p0 : 0 < paid
      · have t6 : decide (0 < paid) = true := by simpa using p0
        by_cases p1 : paid = D
        · have t7 : (paid == D) = true := by simpa using p1
          have P1 := Lib.hid p1
          clear p1
          go_region_held3 (fun w' : World => Ext (w.alloc (.cells #[.int .i64 order, .int .i64 status, .int .i64 prior, .int .i64 cur, .int .i64 tax, .slice A n c, .int .i64 paid, .int .i64 refunded, .int .i64 events, .int .i64 refused, .int .i64 stamp, .string who] 25)) w' ∧ w'.cell? ⟨w.heap.size, 0, none⟩ = some (.int .i64 order) ∧ w'.cell? ⟨w.heap.size, 1, none⟩ = some (.int .i64 status) ∧ w'.cell? ⟨w.heap.size, 2, none⟩ = some (.int .i64 prior) ∧ w'.cell? ⟨w.heap.size, 3, none⟩ = some (.int .i64 cur) ∧ w'.cell? ⟨w.heap.size, 4, none⟩ = some (.int .i64 tax) ∧ w'.cell? ⟨w.heap.size, 5, none⟩ = some (.slice A n c) ∧ w'.cell? ⟨w.heap.size, 6, none⟩ = some (.int .i64 paid) ∧ w'.cell? ⟨w.heap.size, 7, none⟩ = some (.int .i64 refunded) ∧ w'.cell? ⟨w.heap.size, 8, none⟩ = some (.int .i64 events) ∧ w'.cell? ⟨w.heap.size, 9, none⟩ = some (.int .i64 refused) ∧ w'.cell? ⟨w.heap.size, 10, none⟩ = some (.int .i64 stamp) ∧ w'.cell? ⟨w.heap.size, 11, none⟩ = some (.string who)) (exact HS.out _ exA) ((go_at_call 24; (with_reducible refine (KD.out hLB Htx.out _ (hr.ext exA)).mono ?_); rintro e w5 ⟨rfl, hx5⟩; have h3 := HS.out w5 exA; go_split_ands))
          go_wp2_with (first
    | (go_at_call 32; (with_reducible refine (KS.out _).mono ?_); rintro e w6 ⟨rfl, hx6⟩; have h3 := HS.out w6 exA; go_split_ands)
    | (go_at_call 33; (with_reducible refine (KU.out hLB _ (hr.ext exA)).mono ?_); rintro e w7 ⟨rfl, hx7⟩; have h3 := HS.out w7 exA; go_split_ands)
    | (go_at_call 34; (with_reducible refine (KW.out hLB _ (hr.ext exA)).mono ?_); rintro e w8 ⟨rfl, hx8⟩; have h3 := HS.out w8 exA; go_split_ands))
          all_goals (go_ret; refine ⟨?_, exA⟩; have hvs := HVS.out; have hpp := P1.out; have hD0 := HD0.out; rw [hvs]; clear KS KU KW KD HS HVS hvs HV HP HB HVT HD0 KC KL HRr HPB; (try simp only [beq_iff_eq, beq_eq_false_iff_ne, ne_eq, bne_iff_ne, bne_eq_false_iff_eq] at *); first | (simp [*, beq_dec, who_empty]; done) | (simp [*, beq_dec, who_empty]; omega) | (have hw9 := (who_nil who).1 (by assumption); simp [*, beq_dec, who_empty]; done) | (have hw9 := (who_nil who).1 (by assumption); simp only [beq_dec, who_empty] at *; simp [*]; exact decide_eq_decide.2 eq_comm) | (have hw9 := (who_nil who).1 (by assumption); simp [*, beq_dec, who_empty, eq_comm]; done) | (have hw9 : ¬ who = ByteArray.empty := fun h => absurd ((who_nil who).2 h) (by assumption); simp [*, beq_dec, who_empty]; done))
        · have t7 : (paid == D) = false := by simpa using p1
          have P1 := Lib.hid p1
          clear p1
          go_region_held3 (fun w' : World => Ext (w.alloc (.cells #[.int .i64 order, .int .i64 status, .int .i64 prior, .int .i64 cur, .int .i64 tax, .slice A n c, .int .i64 paid, .int .i64 refunded, .int .i64 events, .int .i64 refused, .int .i64 stamp, .string who] 25)) w' ∧ w'.cell? ⟨w.heap.size, 0, none⟩ = some (.int .i64 order) ∧ w'.cell? ⟨w.heap.size, 1, none⟩ = some (.int .i64 status) ∧ w'.cell? ⟨w.heap.size, 2, none⟩ = some (.int .i64 prior) ∧ w'.cell? ⟨w.heap.size, 3, none⟩ = some (.int .i64 cur) ∧ w'.cell? ⟨w.heap.size, 4, none⟩ = some (.int .i64 tax) ∧ w'.cell? ⟨w.heap.size, 5, none⟩ = some (.slice A n c) ∧ w'.cell? ⟨w.heap.size, 6, none⟩ = some (.int .i64 paid) ∧ w'.cell? ⟨w.heap.size, 7, none⟩ = some (.int .i64 refunded) ∧ w'.cell? ⟨w.heap.size, 8, none⟩ = some (.int .i64 events) ∧ w'.cell? ⟨w.heap.size, 9, none⟩ = some (.int .i64 refused) ∧ w'.cell? ⟨w.heap.size, 10, none⟩ = some (.int .i64 stamp) ∧ w'.cell? ⟨w.heap.size, 11, none⟩ = some (.string who)) (exact HS.out _ exA) ((go_at_call 24; (with_reducible refine (KD.out hLB Htx.out _ (hr.ext exA)).mono ?_); rintro e w5 ⟨rfl, hx5⟩; have h3 := HS.out w5 exA; go_split_ands))
          go_wp2_with (first
    | (go_at_call 32; (with_reducible refine (KS.out _).mono ?_); rintro e w6 ⟨rfl, hx6⟩; have h3 := HS.out w6 exA; go_split_ands)
    | (go_at_call 33; (with_reducible refine (KU.out hLB _ (hr.ext exA)).mono ?_); rintro e w7 ⟨rfl, hx7⟩; have h3 := HS.out w7 exA; go_split_ands)
    | (go_at_call 34; (with_reducible refine (KW.out hLB _ (hr.ext exA)).mono ?_); rintro e w8 ⟨rfl, hx8⟩; have h3 := HS.out w8 exA; go_split_ands))
          all_goals (go_ret; refine ⟨?_, exA⟩; have hvs := HVS.out; have hpp := P1.out; have hD0 := HD0.out; rw [hvs]; clear KS KU KW KD HS HVS hvs HV HP HB HVT HD0 KC KL HRr HPB; (try simp only [beq_iff_eq, beq_eq_false_iff_ne, ne_eq, bne_iff_ne, bne_eq_false_iff_eq] at *); first | (simp [*, beq_dec, who_empty]; done) | (simp [*, beq_dec, who_empty]; omega) | (have hw9 := (who_nil who).1 (by assumption); simp [*, beq_dec, who_empty]; done) | (have hw9 := (who_nil who).1 (by assumption); simp only [beq_dec, who_empty] at *; simp [*]; exact decide_eq_decide.2 eq_comm) | (have hw9 := (who_nil who).1 (by assumption); simp [*, beq_dec, who_empty, eq_comm]; done) | (have hw9 : ¬ who = ByteArray.empty := fun h => absurd ((who_nil who).2 h) (by assumption); simp [*, beq_dec, who_empty]; done))
      · have t6 : decide (0 < paid) = false := by simpa using p0
        have P1 := Lib.hid p0
        (first | (go_quiet (fail)) | fail)
        go_wp2_with (first
    | (go_at_call 32; (with_reducible refine (KS.out _).mono ?_); rintro e w6 ⟨rfl, hx6⟩; have h3 := HS.out w6 exA; go_split_ands)
    | (go_at_call 33; (with_reducible refine (KU.out hLB _ (hr.ext exA)).mono ?_); rintro e w7 ⟨rfl, hx7⟩; have h3 := HS.out w7 exA; go_split_ands)
    | (go_at_call 34; (with_reducible refine (KW.out hLB _ (hr.ext exA)).mono ?_); rintro e w8 ⟨rfl, hx8⟩; have h3 := HS.out w8 exA; go_split_ands))
        all_goals (go_ret; refine ⟨?_, exA⟩; have hvs := HVS.out; have hpp := P1.out; have hD0 := HD0.out; rw [hvs]; clear KS KU KW KD HS HVS hvs HV HP HB HVT HD0 KC KL HRr HPB; (try simp only [beq_iff_eq, beq_eq_false_iff_ne, ne_eq, bne_iff_ne, bne_eq_false_iff_eq] at *); first | (simp [*, beq_dec, who_empty]; done) | (simp [*, beq_dec, who_empty]; omega) | (have hw9 := (who_nil who).1 (by assumption); simp [*, beq_dec, who_empty]; done) | (have hw9 := (who_nil who).1 (by assumption); simp only [beq_dec, who_empty] at *; simp [*]; exact decide_eq_decide.2 eq_comm) | (have hw9 := (who_nil who).1 (by assumption); simp [*, beq_dec, who_empty, eq_comm]; done) | (have hw9 : ¬ who = ByteArray.empty := fun h => absurd ((who_nil who).2 h) (by assumption); simp [*, beq_dec, who_empty]; done))
    have tq1 : (prior != 1) = true := by simpa using q1
    by_cases q3 : prior = 3
    · have tq3 : (prior != 3) = false := by simpa using q3
      have HPB : Hid (PB = true) := Lib.hid (by rw [HP.out, if_pos s2]; simp [q3])
      clear q1 q3 s2
      go_wp2_with fail
      have hNM : NM = true := HRr.out.1 (by assumption)
      have hVS : VB = SB := by
        rw [HV.out, HPB.out, hLB, hNM, show wi order 1 1099511627776 = true from wi_iff.2 (by omega), show wi status 0 5 = true from wi_iff.2 (by omega), show wi cur 0 3 = true from wi_iff.2 (by omega), show wi tax 0 5000 = true from wi_iff.2 (by omega), show wi refunded 0 paid = true from wi_iff.2 (by omega), show wi events 0 1099511627776 = true from wi_iff.2 (by omega), show wi refused 0 events = true from wi_iff.2 (by omega), show wi stamp 0 1099511627776 = true from wi_iff.2 (by omega), show decide (paid ≤ D) = true from by simp; omega]
        simp
      rw [HB.out] at hVS
      have HVS := Lib.hid hVS
      clear hVS
      by_cases p0 : 0 < paid
      · have t6 : decide (0 < paid) = true := by simpa using p0
        by_cases p1 : paid = D
        · have t7 : (paid == D) = true := by simpa using p1
          have P1 := Lib.hid p1
          clear p1
          go_region_held3 (fun w' : World => Ext (w.alloc (.cells #[.int .i64 order, .int .i64 status, .int .i64 prior, .int .i64 cur, .int .i64 tax, .slice A n c, .int .i64 paid, .int .i64 refunded, .int .i64 events, .int .i64 refused, .int .i64 stamp, .string who] 25)) w' ∧ w'.cell? ⟨w.heap.size, 0, none⟩ = some (.int .i64 order) ∧ w'.cell? ⟨w.heap.size, 1, none⟩ = some (.int .i64 status) ∧ w'.cell? ⟨w.heap.size, 2, none⟩ = some (.int .i64 prior) ∧ w'.cell? ⟨w.heap.size, 3, none⟩ = some (.int .i64 cur) ∧ w'.cell? ⟨w.heap.size, 4, none⟩ = some (.int .i64 tax) ∧ w'.cell? ⟨w.heap.size, 5, none⟩ = some (.slice A n c) ∧ w'.cell? ⟨w.heap.size, 6, none⟩ = some (.int .i64 paid) ∧ w'.cell? ⟨w.heap.size, 7, none⟩ = some (.int .i64 refunded) ∧ w'.cell? ⟨w.heap.size, 8, none⟩ = some (.int .i64 events) ∧ w'.cell? ⟨w.heap.size, 9, none⟩ = some (.int .i64 refused) ∧ w'.cell? ⟨w.heap.size, 10, none⟩ = some (.int .i64 stamp) ∧ w'.cell? ⟨w.heap.size, 11, none⟩ = some (.string who)) (exact HS.out _ exA) ((go_at_call 24; (with_reducible refine (KD.out hLB Htx.out _ (hr.ext exA)).mono ?_); rintro e w5 ⟨rfl, hx5⟩; have h3 := HS.out w5 exA; go_split_ands))
          go_wp2_with (first
    | (go_at_call 32; (with_reducible refine (KS.out _).mono ?_); rintro e w6 ⟨rfl, hx6⟩; have h3 := HS.out w6 exA; go_split_ands)
    | (go_at_call 33; (with_reducible refine (KU.out hLB _ (hr.ext exA)).mono ?_); rintro e w7 ⟨rfl, hx7⟩; have h3 := HS.out w7 exA; go_split_ands)
    | (go_at_call 34; (with_reducible refine (KW.out hLB _ (hr.ext exA)).mono ?_); rintro e w8 ⟨rfl, hx8⟩; have h3 := HS.out w8 exA; go_split_ands))
          all_goals (go_ret; refine ⟨?_, exA⟩; have hvs := HVS.out; have hpp := P1.out; have hD0 := HD0.out; rw [hvs]; clear KS KU KW KD HS HVS hvs HV HP HB HVT HD0 KC KL HRr HPB; (try simp only [beq_iff_eq, beq_eq_false_iff_ne, ne_eq, bne_iff_ne, bne_eq_false_iff_eq] at *); first | (simp [*, beq_dec, who_empty]; done) | (simp [*, beq_dec, who_empty]; omega) | (have hw9 := (who_nil who).1 (by assumption); simp [*, beq_dec, who_empty]; done) | (have hw9 := (who_nil who).1 (by assumption); simp only [beq_dec, who_empty] at *; simp [*]; exact decide_eq_decide.2 eq_comm) | (have hw9 := (who_nil who).1 (by assumption); simp [*, beq_dec, who_empty, eq_comm]; done) | (have hw9 : ¬ who = ByteArray.empty := fun h => absurd ((who_nil who).2 h) (by assumption); simp [*, beq_dec, who_empty]; done))
        · have t7 : (paid == D) = false := by simpa using p1
          have P1 := Lib.hid p1
          clear p1
          go_region_held3 (fun w' : World => Ext (w.alloc (.cells #[.int .i64 order, .int .i64 status, .int .i64 prior, .int .i64 cur, .int .i64 tax, .slice A n c, .int .i64 paid, .int .i64 refunded, .int .i64 events, .int .i64 refused, .int .i64 stamp, .string who] 25)) w' ∧ w'.cell? ⟨w.heap.size, 0, none⟩ = some (.int .i64 order) ∧ w'.cell? ⟨w.heap.size, 1, none⟩ = some (.int .i64 status) ∧ w'.cell? ⟨w.heap.size, 2, none⟩ = some (.int .i64 prior) ∧ w'.cell? ⟨w.heap.size, 3, none⟩ = some (.int .i64 cur) ∧ w'.cell? ⟨w.heap.size, 4, none⟩ = some (.int .i64 tax) ∧ w'.cell? ⟨w.heap.size, 5, none⟩ = some (.slice A n c) ∧ w'.cell? ⟨w.heap.size, 6, none⟩ = some (.int .i64 paid) ∧ w'.cell? ⟨w.heap.size, 7, none⟩ = some (.int .i64 refunded) ∧ w'.cell? ⟨w.heap.size, 8, none⟩ = some (.int .i64 events) ∧ w'.cell? ⟨w.heap.size, 9, none⟩ = some (.int .i64 refused) ∧ w'.cell? ⟨w.heap.size, 10, none⟩ = some (.int .i64 stamp) ∧ w'.cell? ⟨w.heap.size, 11, none⟩ = some (.string who)) (exact HS.out _ exA) ((go_at_call 24; (with_reducible refine (KD.out hLB Htx.out _ (hr.ext exA)).mono ?_); rintro e w5 ⟨rfl, hx5⟩; have h3 := HS.out w5 exA; go_split_ands))
          go_wp2_with (first
    | (go_at_call 32; (with_reducible refine (KS.out _).mono ?_); rintro e w6 ⟨rfl, hx6⟩; have h3 := HS.out w6 exA; go_split_ands)
    | (go_at_call 33; (with_reducible refine (KU.out hLB _ (hr.ext exA)).mono ?_); rintro e w7 ⟨rfl, hx7⟩; have h3 := HS.out w7 exA; go_split_ands)
    | (go_at_call 34; (with_reducible refine (KW.out hLB _ (hr.ext exA)).mono ?_); rintro e w8 ⟨rfl, hx8⟩; have h3 := HS.out w8 exA; go_split_ands))
          all_goals (go_ret; refine ⟨?_, exA⟩; have hvs := HVS.out; have hpp := P1.out; have hD0 := HD0.out; rw [hvs]; clear KS KU KW KD HS HVS hvs HV HP HB HVT HD0 KC KL HRr HPB; (try simp only [beq_iff_eq, beq_eq_false_iff_ne, ne_eq, bne_iff_ne, bne_eq_false_iff_eq] at *); first | (simp [*, beq_dec, who_empty]; done) | (simp [*, beq_dec, who_empty]; omega) | (have hw9 := (who_nil who).1 (by assumption); simp [*, beq_dec, who_empty]; done) | (have hw9 := (who_nil who).1 (by assumption); simp only [beq_dec, who_empty] at *; simp [*]; exact decide_eq_decide.2 eq_comm) | (have hw9 := (who_nil who).1 (by assumption); simp [*, beq_dec, who_empty, eq_comm]; done) | (have hw9 : ¬ who = ByteArray.empty := fun h => absurd ((who_nil who).2 h) (by assumption); simp [*, beq_dec, who_empty]; done))
      · have t6 : decide (0 < paid) = false := by simpa using p0
        have P1 := Lib.hid p0
        (first | (go_quiet (fail)) | fail)
        go_wp2_with (first
    | (go_at_call 32; (with_reducible refine (KS.out _).mono ?_); rintro e w6 ⟨rfl, hx6⟩; have h3 := HS.out w6 exA; go_split_ands)
    | (go_at_call 33; (with_reducible refine (KU.out hLB _ (hr.ext exA)).mono ?_); rintro e w7 ⟨rfl, hx7⟩; have h3 := HS.out w7 exA; go_split_ands)
    | (go_at_call 34; (with_reducible refine (KW.out hLB _ (hr.ext exA)).mono ?_); rintro e w8 ⟨rfl, hx8⟩; have h3 := HS.out w8 exA; go_split_ands))
        all_goals (go_ret; refine ⟨?_, exA⟩; have hvs := HVS.out; have hpp := P1.out; have hD0 := HD0.out; rw [hvs]; clear KS KU KW KD HS HVS hvs HV HP HB HVT HD0 KC KL HRr HPB; (try simp only [beq_iff_eq, beq_eq_false_iff_ne, ne_eq, bne_iff_ne, bne_eq_false_iff_eq] at *); first | (simp [*, beq_dec, who_empty]; done) | (simp [*, beq_dec, who_empty]; omega) | (have hw9 := (who_nil who).1 (by assumption); simp [*, beq_dec, who_empty]; done) | (have hw9 := (who_nil who).1 (by assumption); simp only [beq_dec, who_empty] at *; simp [*]; exact decide_eq_decide.2 eq_comm) | (have hw9 := (who_nil who).1 (by assumption); simp [*, beq_dec, who_empty, eq_comm]; done) | (have hw9 : ¬ who = ByteArray.empty := fun h => absurd ((who_nil who).2 h) (by assumption); simp [*, beq_dec, who_empty]; done))
    have tq3 : (prior != 3) = true := by simpa using q3
    have S2 := Lib.hid s2
    clear s2
    go_wp2_with fail
    go_ret
    refine ⟨?_, exA⟩
    have hvb : VB = false := by rw [HV.out, HP.out, if_pos S2.out]; simp [q1, q3]
    rw [hvb]; rfl
  · have ts : (status == 2) = false := by simpa using s2
    have ts2 : (status != 2) = true := by simpa using s2
    by_cases q0 : prior = 0
    · have tq0 : (prior != 0) = false := by simpa using q0
      have HPB : Hid (PB = true) := Lib.hid (by rw [HP.out, if_neg s2]; simp [q0])
      clear q0 s2
      go_wp2_with fail
      have hNM : NM = true := HRr.out.1 (by assumption)
      have hVS : VB = SB := by
        rw [HV.out, HPB.out, hLB, hNM, show wi order 1 1099511627776 = true from wi_iff.2 (by omega), show wi status 0 5 = true from wi_iff.2 (by omega), show wi cur 0 3 = true from wi_iff.2 (by omega), show wi tax 0 5000 = true from wi_iff.2 (by omega), show wi refunded 0 paid = true from wi_iff.2 (by omega), show wi events 0 1099511627776 = true from wi_iff.2 (by omega), show wi refused 0 events = true from wi_iff.2 (by omega), show wi stamp 0 1099511627776 = true from wi_iff.2 (by omega), show decide (paid ≤ D) = true from by simp; omega]
        simp
      rw [HB.out] at hVS
      have HVS := Lib.hid hVS
      clear hVS
      by_cases p0 : 0 < paid
      · have t6 : decide (0 < paid) = true := by simpa using p0
        by_cases p1 : paid = D
        · have t7 : (paid == D) = true := by simpa using p1
          have P1 := Lib.hid p1
          clear p1
          go_region_held3 (fun w' : World => Ext (w.alloc (.cells #[.int .i64 order, .int .i64 status, .int .i64 prior, .int .i64 cur, .int .i64 tax, .slice A n c, .int .i64 paid, .int .i64 refunded, .int .i64 events, .int .i64 refused, .int .i64 stamp, .string who] 25)) w' ∧ w'.cell? ⟨w.heap.size, 0, none⟩ = some (.int .i64 order) ∧ w'.cell? ⟨w.heap.size, 1, none⟩ = some (.int .i64 status) ∧ w'.cell? ⟨w.heap.size, 2, none⟩ = some (.int .i64 prior) ∧ w'.cell? ⟨w.heap.size, 3, none⟩ = some (.int .i64 cur) ∧ w'.cell? ⟨w.heap.size, 4, none⟩ = some (.int .i64 tax) ∧ w'.cell? ⟨w.heap.size, 5, none⟩ = some (.slice A n c) ∧ w'.cell? ⟨w.heap.size, 6, none⟩ = some (.int .i64 paid) ∧ w'.cell? ⟨w.heap.size, 7, none⟩ = some (.int .i64 refunded) ∧ w'.cell? ⟨w.heap.size, 8, none⟩ = some (.int .i64 events) ∧ w'.cell? ⟨w.heap.size, 9, none⟩ = some (.int .i64 refused) ∧ w'.cell? ⟨w.heap.size, 10, none⟩ = some (.int .i64 stamp) ∧ w'.cell? ⟨w.heap.size, 11, none⟩ = some (.string who)) (exact HS.out _ exA) ((go_at_call 24; (with_reducible refine (KD.out hLB Htx.out _ (hr.ext exA)).mono ?_); rintro e w5 ⟨rfl, hx5⟩; have h3 := HS.out w5 exA; go_split_ands))
          go_wp2_with (first
    | (go_at_call 32; (with_reducible refine (KS.out _).mono ?_); rintro e w6 ⟨rfl, hx6⟩; have h3 := HS.out w6 exA; go_split_ands)
    | (go_at_call 33; (with_reducible refine (KU.out hLB _ (hr.ext exA)).mono ?_); rintro e w7 ⟨rfl, hx7⟩; have h3 := HS.out w7 exA; go_split_ands)
    | (go_at_call 34; (with_reducible refine (KW.out hLB _ (hr.ext exA)).mono ?_); rintro e w8 ⟨rfl, hx8⟩; have h3 := HS.out w8 exA; go_split_ands))
          all_goals (go_ret; refine ⟨?_, exA⟩; have hvs := HVS.out; have hpp := P1.out; have hD0 := HD0.out; rw [hvs]; clear KS KU KW KD HS HVS hvs HV HP HB HVT HD0 KC KL HRr HPB; (try simp only [beq_iff_eq, beq_eq_false_iff_ne, ne_eq, bne_iff_ne, bne_eq_false_iff_eq] at *); first | (simp [*, beq_dec, who_empty]; done) | (simp [*, beq_dec, who_empty]; omega) | (have hw9 := (who_nil who).1 (by assumption); simp [*, beq_dec, who_empty]; done) | (have hw9 := (who_nil who).1 (by assumption); simp only [beq_dec, who_empty] at *; simp [*]; exact decide_eq_decide.2 eq_comm) | (have hw9 := (who_nil who).1 (by assumption); simp [*, beq_dec, who_empty, eq_comm]; done) | (have hw9 : ¬ who = ByteArray.empty := fun h => absurd ((who_nil who).2 h) (by assumption); simp [*, beq_dec, who_empty]; done))
        · have t7 : (paid == D) = false := by simpa using p1
          have P1 := Lib.hid p1
          clear p1
          go_region_held3 (fun w' : World => Ext (w.alloc (.cells #[.int .i64 order, .int .i64 status, .int .i64 prior, .int .i64 cur, .int .i64 tax, .slice A n c, .int .i64 paid, .int .i64 refunded, .int .i64 events, .int .i64 refused, .int .i64 stamp, .string who] 25)) w' ∧ w'.cell? ⟨w.heap.size, 0, none⟩ = some (.int .i64 order) ∧ w'.cell? ⟨w.heap.size, 1, none⟩ = some (.int .i64 status) ∧ w'.cell? ⟨w.heap.size, 2, none⟩ = some (.int .i64 prior) ∧ w'.cell? ⟨w.heap.size, 3, none⟩ = some (.int .i64 cur) ∧ w'.cell? ⟨w.heap.size, 4, none⟩ = some (.int .i64 tax) ∧ w'.cell? ⟨w.heap.size, 5, none⟩ = some (.slice A n c) ∧ w'.cell? ⟨w.heap.size, 6, none⟩ = some (.int .i64 paid) ∧ w'.cell? ⟨w.heap.size, 7, none⟩ = some (.int .i64 refunded) ∧ w'.cell? ⟨w.heap.size, 8, none⟩ = some (.int .i64 events) ∧ w'.cell? ⟨w.heap.size, 9, none⟩ = some (.int .i64 refused) ∧ w'.cell? ⟨w.heap.size, 10, none⟩ = some (.int .i64 stamp) ∧ w'.cell? ⟨w.heap.size, 11, none⟩ = some (.string who)) (exact HS.out _ exA) ((go_at_call 24; (with_reducible refine (KD.out hLB Htx.out _ (hr.ext exA)).mono ?_); rintro e w5 ⟨rfl, hx5⟩; have h3 := HS.out w5 exA; go_split_ands))
          go_wp2_with (first
    | (go_at_call 32; (with_reducible refine (KS.out _).mono ?_); rintro e w6 ⟨rfl, hx6⟩; have h3 := HS.out w6 exA; go_split_ands)
    | (go_at_call 33; (with_reducible refine (KU.out hLB _ (hr.ext exA)).mono ?_); rintro e w7 ⟨rfl, hx7⟩; have h3 := HS.out w7 exA; go_split_ands)
    | (go_at_call 34; (with_reducible refine (KW.out hLB _ (hr.ext exA)).mono ?_); rintro e w8 ⟨rfl, hx8⟩; have h3 := HS.out w8 exA; go_split_ands))
          all_goals (go_ret; refine ⟨?_, exA⟩; have hvs := HVS.out; have hpp := P1.out; have hD0 := HD0.out; rw [hvs]; clear KS KU KW KD HS HVS hvs HV HP HB HVT HD0 KC KL HRr HPB; (try simp only [beq_iff_eq, beq_eq_false_iff_ne, ne_eq, bne_iff_ne, bne_eq_false_iff_eq] at *); first | (simp [*, beq_dec, who_empty]; done) | (simp [*, beq_dec, who_empty]; omega) | (have hw9 := (who_nil who).1 (by assumption); simp [*, beq_dec, who_empty]; done) | (have hw9 := (who_nil who).1 (by assumption); simp only [beq_dec, who_empty] at *; simp [*]; exact decide_eq_decide.2 eq_comm) | (have hw9 := (who_nil who).1 (by assumption); simp [*, beq_dec, who_empty, eq_comm]; done) | (have hw9 : ¬ who = ByteArray.empty := fun h => absurd ((who_nil who).2 h) (by assumption); simp [*, beq_dec, who_empty]; done))
      · have t6 : decide (0 < paid) = false := by simpa using p0
        have P1 := Lib.hid p0
        (first | (go_quiet (fail)) | fail)
        go_wp2_with (first
    | (go_at_call 32; (with_reducible refine (KS.out _).mono ?_); rintro e w6 ⟨rfl, hx6⟩; have h3 := HS.out w6 exA; go_split_ands)
    | (go_at_call 33; (with_reducible refine (KU.out hLB _ (hr.ext exA)).mono ?_); rintro e w7 ⟨rfl, hx7⟩; have h3 := HS.out w7 exA; go_split_ands)
    | (go_at_call 34; (with_reducible refine (KW.out hLB _ (hr.ext exA)).mono ?_); rintro e w8 ⟨rfl, hx8⟩; have h3 := HS.out w8 exA; go_split_ands))
        all_goals (go_ret; refine ⟨?_, exA⟩; have hvs := HVS.out; have hpp := P1.out; have hD0 := HD0.out; rw [hvs]; clear KS KU KW KD HS HVS hvs HV HP HB HVT HD0 KC KL HRr HPB; (try simp only [beq_iff_eq, beq_eq_false_iff_ne, ne_eq, bne_iff_ne, bne_eq_false_iff_eq] at *); first | (simp [*, beq_dec, who_empty]; done) | (simp [*, beq_dec, who_empty]; omega) | (have hw9 := (who_nil who).1 (by assumption); simp [*, beq_dec, who_empty]; done) | (have hw9 := (who_nil who).1 (by assumption); simp only [beq_dec, who_empty] at *; simp [*]; exact decide_eq_decide.2 eq_comm) | (have hw9 := (who_nil who).1 (by assumption); simp [*, beq_dec, who_empty, eq_comm]; done) | (have hw9 : ¬ who = ByteArray.empty := fun h => absurd ((who_nil who).2 h) (by assumption); simp [*, beq_dec, who_empty]; done))
    have tq0 : (prior != 0) = true := by simpa using q0
    go_wp2_with fail
    go_ret
    refine ⟨?_, exA⟩
    have hvb : VB = false := by rw [HV.out, HP.out, if_neg s2]; simp [q0]
    rw [hvb]; rfl
end Go.Proofs.Ytlpjhnecihhkfaa
