/-
  The walk of the reference's Apply: what is not refused. (Written by wip/tools/gen_rapply.py.)
-/
import Derived.Test.YtlpjhnecihhkfaaOrdRi
import Derived.Test.YtlpjhnecihhkfaaOrdO
namespace Go.Proofs.Ytlpjhnecihhkfaa
open Go.RowKit
set_option linter.unusedVariables false
set_option linter.unusedSimpArgs false
set_option maxRecDepth 100000 in
set_option maxHeartbeats 8000000 in
theorem rapply_3 (s : St) (e : Ev) (A : Option Addr) (c : Nat) (w : World) (hr : LsRd w A s.lines) (hn : s.lines.length ≤ 4398046510976) (hw1 : s.who.size ≤ 4611686018427387904) (hw2 : e.who.size ≤ 4611686018427387904) (hw3 : e.note.size ≤ 4611686018427387904) (hJ : judge s e = 0) (hk : e.kind = 3) :
    Calls Try.prog 26 #[.agg (stcells s A c), .agg (evcells e)] w (ApPost w (rule (bump s e) e) 0) := by
  have hf := fine_of hJ
  have hv := hf.valid
  have he := hf.event
  have hev := hv.events
  have hqt := he.qty
  have hpr := he.price
  have K3 := Lib.hid fun W (h : LsRd W A s.lines) => scopy_any s A c W h (by omega)
  have KJ := Lib.hid fun W (h : LsRd W A s.lines) => rjudge_any s e A c W h (by omega) hw1 hw2 hw3
  rw [hJ] at KJ
  have hR : rule (bump s e) e = ⟨s.order, if s.paid + e.price = due s then 3 else s.status, s.prior, s.cur, s.tax, s.lines, s.paid + e.price, s.refunded, s.events + 1, s.refused, (if s.stamp < e.stamp then e.stamp else s.stamp), (if e.who.size = 0 then s.who else e.who)⟩ := by
    unfold rule
    rw [if_neg (by omega), if_neg (by omega), if_neg (by omega), if_pos hk]; rfl
  rw [hR]
  have hb9 := hf.pay hk
  have hb8 := hv.paid
  have hb7 := hv.refunded
  have hb6 := (net_bound hv.lines_ok).2
  have hb5 := tax_bound (net_bound hv.lines_ok).1 hv.tax.1 hv.tax.2
  have hb4 : due s = net s.lines + taxOf (net s.lines) s.tax := rfl
  have hb3 := hv.len
  have hw7 : IntKind.i64.wrap (s.paid + e.price) = s.paid + e.price := by rw [IntKind.wrap_i64]; omega
  have KD := Lib.hid fun W (h : LsRd W A s.lines) => rdue_any s A c W h (fun l hl => (rises_mem hv.rises l hl).1) hv.len hv.tax
  clear hb9 hb8 hb7 hb6 hb5 hb4 hb3
  generalize due s = D at *
  have hk1 : ∀ j : Int, j ≠ 3 → (e.kind == j) = false := fun j h => by simp; omega
  have hkK : (e.kind == 3) = true := by simp; exact hk
  clear hn hw1 hw2 hw3 hf hJ hR hv he
  obtain ⟨order, status, prior, cur, tax, ls, paid, refunded, events, refused, stamp, who⟩ := s
  obtain ⟨ek, eo, ei, eq, ep, ec, et, ew, es, en⟩ := e
  unfold CopPost at K3
  unfold stcells evcells at *
  unfold ApPost stcells
  dsimp only at *
  have Hnn : Hid (∃ n, n = ls.length) := Lib.hid ⟨_, rfl⟩
  obtain ⟨n, hnn⟩ := Hnn.out
  rw [← hnn] at K3 KJ KD ⊢
  clear hnn Hnn
  have HS := Lib.hid (fun w' (h : Ext (((w.alloc (.cells #[.int .i64 order, .int .i64 status, .int .i64 prior, .int .i64 cur, .int .i64 tax, .slice A n c, .int .i64 paid, .int .i64 refunded, .int .i64 events, .int .i64 refused, .int .i64 stamp, .string who] 25)).alloc (.cells #[.int .i64 ek, .int .i64 eo, .int .i64 ei, .int .i64 eq, .int .i64 ep, .int .i64 ec, .int .i64 et, .string ew, .int .i64 es, .string en] 28)).alloc (.cells #[.int .i64 0, .int .i64 0, .int .i64 0, .int .i64 0, .int .i64 0, .slice none 0 0, .int .i64 0, .int .i64 0, .int .i64 0, .int .i64 0, .int .i64 0, .string ⟨#[]⟩] 25)) w') => (⟨h, (Ext.blk h (BlkA (BlkA (BlkN rfl)))).cell 0, (Ext.blk h (BlkA (BlkA (BlkN rfl)))).cell 1, (Ext.blk h (BlkA (BlkA (BlkN rfl)))).cell 2, (Ext.blk h (BlkA (BlkA (BlkN rfl)))).cell 3, (Ext.blk h (BlkA (BlkA (BlkN rfl)))).cell 4, (Ext.blk h (BlkA (BlkA (BlkN rfl)))).cell 5, (Ext.blk h (BlkA (BlkA (BlkN rfl)))).cell 6, (Ext.blk h (BlkA (BlkA (BlkN rfl)))).cell 7, (Ext.blk h (BlkA (BlkA (BlkN rfl)))).cell 8, (Ext.blk h (BlkA (BlkA (BlkN rfl)))).cell 9, (Ext.blk h (BlkA (BlkA (BlkN rfl)))).cell 10, (Ext.blk h (BlkA (BlkA (BlkN rfl)))).cell 11, (Ext.blk h (BlkA (BlkN (by simp)))).cell 0, (Ext.blk h (BlkA (BlkN (by simp)))).cell 1, (Ext.blk h (BlkA (BlkN (by simp)))).cell 2, (Ext.blk h (BlkA (BlkN (by simp)))).cell 3, (Ext.blk h (BlkA (BlkN (by simp)))).cell 4, (Ext.blk h (BlkA (BlkN (by simp)))).cell 5, (Ext.blk h (BlkA (BlkN (by simp)))).cell 6, (Ext.blk h (BlkA (BlkN (by simp)))).cell 7, (Ext.blk h (BlkA (BlkN (by simp)))).cell 8, (Ext.blk h (BlkA (BlkN (by simp)))).cell 9⟩ : (fun w' : World => Ext (((w.alloc (.cells #[.int .i64 order, .int .i64 status, .int .i64 prior, .int .i64 cur, .int .i64 tax, .slice A n c, .int .i64 paid, .int .i64 refunded, .int .i64 events, .int .i64 refused, .int .i64 stamp, .string who] 25)).alloc (.cells #[.int .i64 ek, .int .i64 eo, .int .i64 ei, .int .i64 eq, .int .i64 ep, .int .i64 ec, .int .i64 et, .string ew, .int .i64 es, .string en] 28)).alloc (.cells #[.int .i64 0, .int .i64 0, .int .i64 0, .int .i64 0, .int .i64 0, .slice none 0 0, .int .i64 0, .int .i64 0, .int .i64 0, .int .i64 0, .int .i64 0, .string ⟨#[]⟩] 25)) w' ∧ w'.cell? ⟨w.heap.size, 0, none⟩ = some (.int .i64 order) ∧ w'.cell? ⟨w.heap.size, 1, none⟩ = some (.int .i64 status) ∧ w'.cell? ⟨w.heap.size, 2, none⟩ = some (.int .i64 prior) ∧ w'.cell? ⟨w.heap.size, 3, none⟩ = some (.int .i64 cur) ∧ w'.cell? ⟨w.heap.size, 4, none⟩ = some (.int .i64 tax) ∧ w'.cell? ⟨w.heap.size, 5, none⟩ = some (.slice A n c) ∧ w'.cell? ⟨w.heap.size, 6, none⟩ = some (.int .i64 paid) ∧ w'.cell? ⟨w.heap.size, 7, none⟩ = some (.int .i64 refunded) ∧ w'.cell? ⟨w.heap.size, 8, none⟩ = some (.int .i64 events) ∧ w'.cell? ⟨w.heap.size, 9, none⟩ = some (.int .i64 refused) ∧ w'.cell? ⟨w.heap.size, 10, none⟩ = some (.int .i64 stamp) ∧ w'.cell? ⟨w.heap.size, 11, none⟩ = some (.string who) ∧ w'.cell? ⟨w.heap.size + 1, 0, none⟩ = some (.int .i64 ek) ∧ w'.cell? ⟨w.heap.size + 1, 1, none⟩ = some (.int .i64 eo) ∧ w'.cell? ⟨w.heap.size + 1, 2, none⟩ = some (.int .i64 ei) ∧ w'.cell? ⟨w.heap.size + 1, 3, none⟩ = some (.int .i64 eq) ∧ w'.cell? ⟨w.heap.size + 1, 4, none⟩ = some (.int .i64 ep) ∧ w'.cell? ⟨w.heap.size + 1, 5, none⟩ = some (.int .i64 ec) ∧ w'.cell? ⟨w.heap.size + 1, 6, none⟩ = some (.int .i64 et) ∧ w'.cell? ⟨w.heap.size + 1, 7, none⟩ = some (.string ew) ∧ w'.cell? ⟨w.heap.size + 1, 8, none⟩ = some (.int .i64 es) ∧ w'.cell? ⟨w.heap.size + 1, 9, none⟩ = some (.string en)) w'))
  have hv1 : IntKind.i64.wrap (events + 1) = events + 1 := by rw [IntKind.wrap_i64]; omega
  have k1 : (ek == 1) = false := hk1 1 (by omega)
  have k2 : (ek == 2) = false := hk1 2 (by omega)
  have k4 : (ek == 4) = false := hk1 4 (by omega)
  have k5 : (ek == 5) = false := hk1 5 (by omega)
  have k6 : (ek == 6) = false := hk1 6 (by omega)
  have k7 : (ek == 7) = false := hk1 7 (by omega)
  have k8 : (ek == 8) = false := hk1 8 (by omega)
  have k9 : (ek == 9) = false := hk1 9 (by omega)
  have k10 : (ek == 10) = false := hk1 10 (by omega)
  clear hk1 hk
  by_cases hD : paid + ep = D
  · have d1 : (paid + ep == D) = true := by simp; exact hD
    rw [if_pos hD]
    clear hD
    generalize hsv : (if stamp < es then es else stamp) = sv
    generalize hwv : (if ew.size = 0 then who else ew) = wv
    refine four (p := stamp < es) (q := ew.size = 0) ?aa ?ab ?ba ?bb
    case' aa => intro hst hwz; rw [if_pos hst] at hsv; rw [if_pos hwz] at hwv; have hwt : ew.toList.isEmpty = true := by rw [who_empty]; simpa using hwz
    case' ab => intro hst hwz; rw [if_pos hst] at hsv; rw [if_neg hwz] at hwv; have hwt : ew.toList.isEmpty = false := by rw [who_empty]; simpa using hwz
    case' ba => intro hst hwz; rw [if_neg hst] at hsv; rw [if_pos hwz] at hwv; have hwt : ew.toList.isEmpty = true := by rw [who_empty]; simpa using hwz
    case' bb => intro hst hwz; rw [if_neg hst] at hsv; rw [if_neg hwz] at hwv; have hwt : ew.toList.isEmpty = false := by rw [who_empty]; simpa using hwz
    all_goals
      have Hsv := Lib.hid hsv
      have Hwv := Lib.hid hwv
      clear hsv hwv hwz
      go_enter Try.func26, Try.ntmps26
      go_upto_region 13 with (first | (go_at_call 15; (with_reducible refine (K3.out _ (hr.ext exA)).mono ?_); rintro e w1 ⟨A1, c1, rfl, hx1, ho1⟩; have hG : w.heap.size + 1 + 1 + 1 ≤ w1.heap.size := (by have := hx1.size; simpa using this); have hn0 : ¬ (w.heap.size = w1.heap.size) := (by omega); have hn1 : ¬ (w1.heap.size = w.heap.size) := (by omega); have hn2 : ¬ (w.heap.size + 1 = w1.heap.size) := (by omega); have hn3 : ¬ (w1.heap.size = w.heap.size + 1) := (by omega); have hn4 : ¬ (w.heap.size + 1 + 1 = w1.heap.size) := (by omega); have hn5 : ¬ (w1.heap.size = w.heap.size + 1 + 1) := (by omega); have h3 := HS.out (w1.alloc (.cells #[.int .i64 order, .int .i64 status, .int .i64 prior, .int .i64 cur, .int .i64 tax, .slice A1 n c1, .int .i64 paid, .int .i64 refunded, .int .i64 events, .int .i64 refused, .int .i64 stamp, .string who] 25)) (ExtA hx1); go_split_ands) | (go_at_call 25; (with_reducible refine (KJ.out _ (hr.ext exA)).mono ?_); rintro e w2 ⟨rfl, hx2⟩; have d6 : Blk w2 w1.heap.size 25 #[.int .i64 order, .int .i64 status, .int .i64 prior, .int .i64 cur, .int .i64 tax, .slice A1 n c1, .int .i64 paid, .int .i64 refunded, .int .i64 events, .int .i64 refused, .int .i64 stamp, .string who] := BlkE (BlkN rfl) hx2; have d4 : Blk w2 (w.heap.size + 1 + 1) 25 #[.int .i64 0, .int .i64 0, .int .i64 0, .int .i64 0, .int .i64 0, .slice none 0 0, .int .i64 0, .int .i64 0, .int .i64 0, .int .i64 0, .int .i64 0, .string ⟨#[]⟩] := BlkE (BlkA (BlkE (BlkN (by simp)) hx1)) hx2; have o2 : OwnLs w2 (w.heap.size + 1 + 1 + 1) A1 ls c1 := own_less (OwnLs.mono (OwnA ho1) hx2) (by simp); have HN := Lib.hid (own_apart o2 d6); have HN4 := Lib.hid (own_apart o2 d4); have Ho := Lib.hid o2; have h3 := HS.out w2 (Ext.tr (ExtA hx1) hx2); go_split_ands; (have p0 : World.cell? w2 ⟨w1.heap.size, 0, none⟩ = some (.int .i64 order) := Blk.cell d6 0; have p1 : World.cell? w2 ⟨w1.heap.size, 1, none⟩ = some (.int .i64 status) := Blk.cell d6 1; have p2 : World.cell? w2 ⟨w1.heap.size, 2, none⟩ = some (.int .i64 prior) := Blk.cell d6 2; have p3 : World.cell? w2 ⟨w1.heap.size, 3, none⟩ = some (.int .i64 cur) := Blk.cell d6 3; have p4 : World.cell? w2 ⟨w1.heap.size, 4, none⟩ = some (.int .i64 tax) := Blk.cell d6 4; have p5 : World.cell? w2 ⟨w1.heap.size, 5, none⟩ = some _ := Blk.cell d6 5; have p6 : World.cell? w2 ⟨w1.heap.size, 6, none⟩ = some (.int .i64 paid) := Blk.cell d6 6; have p7 : World.cell? w2 ⟨w1.heap.size, 7, none⟩ = some (.int .i64 refunded) := Blk.cell d6 7; have p8 : World.cell? w2 ⟨w1.heap.size, 8, none⟩ = some (.int .i64 events) := Blk.cell d6 8; have p9 : World.cell? w2 ⟨w1.heap.size, 9, none⟩ = some (.int .i64 refused) := Blk.cell d6 9; have p10 : World.cell? w2 ⟨w1.heap.size, 10, none⟩ = some (.int .i64 stamp) := Blk.cell d6 10; have p11 : World.cell? w2 ⟨w1.heap.size, 11, none⟩ = some (.string who) := Blk.cell d6 11); have y1 := d6.frozen 1; have y2 := d6.frozen 2; have y3 := d6.frozen 3; have y4 := d6.frozen 4; have y5 := d6.frozen 5; have y6 := d6.frozen 6; have y7 := d6.frozen 7; have y8 := d6.frozen 8; have y9 := d6.frozen 9; have y10 := d6.frozen 10; have y11 := d6.frozen 11))
    case' _ =>
      have e6 : Blk (World.setCell (World.setCell w2 ⟨w1.heap.size, 8, none⟩ (.int .i64 (events + 1))) ⟨w1.heap.size, 11, none⟩ (.string ew)) w1.heap.size 25 #[.int .i64 order, .int .i64 status, .int .i64 prior, .int .i64 cur, .int .i64 tax, .slice A1 n c1, .int .i64 paid, .int .i64 refunded, .int .i64 (events + 1), .int .i64 refused, .int .i64 sv, .string wv] := Blk_eq (BlkS (BlkS d6)) (by rw [← Hsv.out, ← Hwv.out]; rfl)
      have e4 : Blk (World.setCell (World.setCell w2 ⟨w1.heap.size, 8, none⟩ (.int .i64 (events + 1))) ⟨w1.heap.size, 11, none⟩ (.string ew)) (w.heap.size + 1 + 1) 25 #[.int .i64 0, .int .i64 0, .int .i64 0, .int .i64 0, .int .i64 0, .slice none 0 0, .int .i64 0, .int .i64 0, .int .i64 0, .int .i64 0, .int .i64 0, .string ⟨#[]⟩] := bkV
      have oz : OwnLs (World.setCell (World.setCell w2 ⟨w1.heap.size, 8, none⟩ (.int .i64 (events + 1))) ⟨w1.heap.size, 11, none⟩ (.string ew)) (w.heap.size + 1 + 1 + 1) A1 ls c1 := (OwnSt HN.out (OwnSt HN.out o2))
      have hXz : Ext (((w.alloc (.cells #[.int .i64 order, .int .i64 status, .int .i64 prior, .int .i64 cur, .int .i64 tax, .slice A n c, .int .i64 paid, .int .i64 refunded, .int .i64 events, .int .i64 refused, .int .i64 stamp, .string who] 25)).alloc (.cells #[.int .i64 ek, .int .i64 eo, .int .i64 ei, .int .i64 eq, .int .i64 ep, .int .i64 ec, .int .i64 et, .string ew, .int .i64 es, .string en] 28)).alloc (.cells #[.int .i64 0, .int .i64 0, .int .i64 0, .int .i64 0, .int .i64 0, .slice none 0 0, .int .i64 0, .int .i64 0, .int .i64 0, .int .i64 0, .int .i64 0, .string ⟨#[]⟩] 25)) (World.setCell (World.setCell w2 ⟨w1.heap.size, 8, none⟩ (.int .i64 (events + 1))) ⟨w1.heap.size, 11, none⟩ (.string ew)) := exA
      have hz3 := HS.out (World.setCell (World.setCell w2 ⟨w1.heap.size, 8, none⟩ (.int .i64 (events + 1))) ⟨w1.heap.size, 11, none⟩ (.string ew)) hXz
      clear p0 p1 p2 p3 p4 p5 p6 p7 p8 p9 p10 p11 y1 y2 y3 y4 y5 y6 y7 y8 y9 y10 y11 d6 d4 o2 Ho ho1
      have hX1 : w.heap.size + 1 + 1 + 1 ≤ w1.heap.size := hG
      generalize (World.setCell (World.setCell w2 ⟨w1.heap.size, 8, none⟩ (.int .i64 (events + 1))) ⟨w1.heap.size, 11, none⟩ (.string ew)) = Wz at *
      generalize w1.heap.size = G at *
      clear hx1 hx2 K3 KJ
    rotate_left 1
    case' _ =>
      have e6 : Blk (World.setCell w2 ⟨w1.heap.size, 8, none⟩ (.int .i64 (events + 1))) w1.heap.size 25 #[.int .i64 order, .int .i64 status, .int .i64 prior, .int .i64 cur, .int .i64 tax, .slice A1 n c1, .int .i64 paid, .int .i64 refunded, .int .i64 (events + 1), .int .i64 refused, .int .i64 sv, .string wv] := Blk_eq (BlkS d6) (by rw [← Hsv.out, ← Hwv.out]; rfl)
      have e4 : Blk (World.setCell w2 ⟨w1.heap.size, 8, none⟩ (.int .i64 (events + 1))) (w.heap.size + 1 + 1) 25 #[.int .i64 0, .int .i64 0, .int .i64 0, .int .i64 0, .int .i64 0, .slice none 0 0, .int .i64 0, .int .i64 0, .int .i64 0, .int .i64 0, .int .i64 0, .string ⟨#[]⟩] := bkV
      have oz : OwnLs (World.setCell w2 ⟨w1.heap.size, 8, none⟩ (.int .i64 (events + 1))) (w.heap.size + 1 + 1 + 1) A1 ls c1 := (OwnSt HN.out o2)
      have hXz : Ext (((w.alloc (.cells #[.int .i64 order, .int .i64 status, .int .i64 prior, .int .i64 cur, .int .i64 tax, .slice A n c, .int .i64 paid, .int .i64 refunded, .int .i64 events, .int .i64 refused, .int .i64 stamp, .string who] 25)).alloc (.cells #[.int .i64 ek, .int .i64 eo, .int .i64 ei, .int .i64 eq, .int .i64 ep, .int .i64 ec, .int .i64 et, .string ew, .int .i64 es, .string en] 28)).alloc (.cells #[.int .i64 0, .int .i64 0, .int .i64 0, .int .i64 0, .int .i64 0, .slice none 0 0, .int .i64 0, .int .i64 0, .int .i64 0, .int .i64 0, .int .i64 0, .string ⟨#[]⟩] 25)) (World.setCell w2 ⟨w1.heap.size, 8, none⟩ (.int .i64 (events + 1))) := exA
      have hz3 := HS.out (World.setCell w2 ⟨w1.heap.size, 8, none⟩ (.int .i64 (events + 1))) hXz
      clear p0 p1 p2 p3 p4 p5 p6 p7 p8 p9 p10 p11 y1 y2 y3 y4 y5 y6 y7 y8 y9 y10 y11 d6 d4 o2 Ho ho1
      have hX1 : w.heap.size + 1 + 1 + 1 ≤ w1.heap.size := hG
      generalize (World.setCell w2 ⟨w1.heap.size, 8, none⟩ (.int .i64 (events + 1))) = Wz at *
      generalize w1.heap.size = G at *
      clear hx1 hx2 K3 KJ
    rotate_left 1
    case' _ =>
      have e6 : Blk (World.setCell (World.setCell (World.setCell w2 ⟨w1.heap.size, 8, none⟩ (.int .i64 (events + 1))) ⟨w1.heap.size, 10, none⟩ (.int .i64 es)) ⟨w1.heap.size, 11, none⟩ (.string ew)) w1.heap.size 25 #[.int .i64 order, .int .i64 status, .int .i64 prior, .int .i64 cur, .int .i64 tax, .slice A1 n c1, .int .i64 paid, .int .i64 refunded, .int .i64 (events + 1), .int .i64 refused, .int .i64 sv, .string wv] := Blk_eq (BlkS (BlkS (BlkS d6))) (by rw [← Hsv.out, ← Hwv.out]; rfl)
      have e4 : Blk (World.setCell (World.setCell (World.setCell w2 ⟨w1.heap.size, 8, none⟩ (.int .i64 (events + 1))) ⟨w1.heap.size, 10, none⟩ (.int .i64 es)) ⟨w1.heap.size, 11, none⟩ (.string ew)) (w.heap.size + 1 + 1) 25 #[.int .i64 0, .int .i64 0, .int .i64 0, .int .i64 0, .int .i64 0, .slice none 0 0, .int .i64 0, .int .i64 0, .int .i64 0, .int .i64 0, .int .i64 0, .string ⟨#[]⟩] := bkV
      have oz : OwnLs (World.setCell (World.setCell (World.setCell w2 ⟨w1.heap.size, 8, none⟩ (.int .i64 (events + 1))) ⟨w1.heap.size, 10, none⟩ (.int .i64 es)) ⟨w1.heap.size, 11, none⟩ (.string ew)) (w.heap.size + 1 + 1 + 1) A1 ls c1 := (OwnSt HN.out (OwnSt HN.out (OwnSt HN.out o2)))
      have hXz : Ext (((w.alloc (.cells #[.int .i64 order, .int .i64 status, .int .i64 prior, .int .i64 cur, .int .i64 tax, .slice A n c, .int .i64 paid, .int .i64 refunded, .int .i64 events, .int .i64 refused, .int .i64 stamp, .string who] 25)).alloc (.cells #[.int .i64 ek, .int .i64 eo, .int .i64 ei, .int .i64 eq, .int .i64 ep, .int .i64 ec, .int .i64 et, .string ew, .int .i64 es, .string en] 28)).alloc (.cells #[.int .i64 0, .int .i64 0, .int .i64 0, .int .i64 0, .int .i64 0, .slice none 0 0, .int .i64 0, .int .i64 0, .int .i64 0, .int .i64 0, .int .i64 0, .string ⟨#[]⟩] 25)) (World.setCell (World.setCell (World.setCell w2 ⟨w1.heap.size, 8, none⟩ (.int .i64 (events + 1))) ⟨w1.heap.size, 10, none⟩ (.int .i64 es)) ⟨w1.heap.size, 11, none⟩ (.string ew)) := exA
      have hz3 := HS.out (World.setCell (World.setCell (World.setCell w2 ⟨w1.heap.size, 8, none⟩ (.int .i64 (events + 1))) ⟨w1.heap.size, 10, none⟩ (.int .i64 es)) ⟨w1.heap.size, 11, none⟩ (.string ew)) hXz
      clear p0 p1 p2 p3 p4 p5 p6 p7 p8 p9 p10 p11 y1 y2 y3 y4 y5 y6 y7 y8 y9 y10 y11 d6 d4 o2 Ho ho1
      have hX1 : w.heap.size + 1 + 1 + 1 ≤ w1.heap.size := hG
      generalize (World.setCell (World.setCell (World.setCell w2 ⟨w1.heap.size, 8, none⟩ (.int .i64 (events + 1))) ⟨w1.heap.size, 10, none⟩ (.int .i64 es)) ⟨w1.heap.size, 11, none⟩ (.string ew)) = Wz at *
      generalize w1.heap.size = G at *
      clear hx1 hx2 K3 KJ
    rotate_left 1
    case' _ =>
      have e6 : Blk (World.setCell (World.setCell w2 ⟨w1.heap.size, 8, none⟩ (.int .i64 (events + 1))) ⟨w1.heap.size, 10, none⟩ (.int .i64 es)) w1.heap.size 25 #[.int .i64 order, .int .i64 status, .int .i64 prior, .int .i64 cur, .int .i64 tax, .slice A1 n c1, .int .i64 paid, .int .i64 refunded, .int .i64 (events + 1), .int .i64 refused, .int .i64 sv, .string wv] := Blk_eq (BlkS (BlkS d6)) (by rw [← Hsv.out, ← Hwv.out]; rfl)
      have e4 : Blk (World.setCell (World.setCell w2 ⟨w1.heap.size, 8, none⟩ (.int .i64 (events + 1))) ⟨w1.heap.size, 10, none⟩ (.int .i64 es)) (w.heap.size + 1 + 1) 25 #[.int .i64 0, .int .i64 0, .int .i64 0, .int .i64 0, .int .i64 0, .slice none 0 0, .int .i64 0, .int .i64 0, .int .i64 0, .int .i64 0, .int .i64 0, .string ⟨#[]⟩] := bkV
      have oz : OwnLs (World.setCell (World.setCell w2 ⟨w1.heap.size, 8, none⟩ (.int .i64 (events + 1))) ⟨w1.heap.size, 10, none⟩ (.int .i64 es)) (w.heap.size + 1 + 1 + 1) A1 ls c1 := (OwnSt HN.out (OwnSt HN.out o2))
      have hXz : Ext (((w.alloc (.cells #[.int .i64 order, .int .i64 status, .int .i64 prior, .int .i64 cur, .int .i64 tax, .slice A n c, .int .i64 paid, .int .i64 refunded, .int .i64 events, .int .i64 refused, .int .i64 stamp, .string who] 25)).alloc (.cells #[.int .i64 ek, .int .i64 eo, .int .i64 ei, .int .i64 eq, .int .i64 ep, .int .i64 ec, .int .i64 et, .string ew, .int .i64 es, .string en] 28)).alloc (.cells #[.int .i64 0, .int .i64 0, .int .i64 0, .int .i64 0, .int .i64 0, .slice none 0 0, .int .i64 0, .int .i64 0, .int .i64 0, .int .i64 0, .int .i64 0, .string ⟨#[]⟩] 25)) (World.setCell (World.setCell w2 ⟨w1.heap.size, 8, none⟩ (.int .i64 (events + 1))) ⟨w1.heap.size, 10, none⟩ (.int .i64 es)) := exA
      have hz3 := HS.out (World.setCell (World.setCell w2 ⟨w1.heap.size, 8, none⟩ (.int .i64 (events + 1))) ⟨w1.heap.size, 10, none⟩ (.int .i64 es)) hXz
      clear p0 p1 p2 p3 p4 p5 p6 p7 p8 p9 p10 p11 y1 y2 y3 y4 y5 y6 y7 y8 y9 y10 y11 d6 d4 o2 Ho ho1
      have hX1 : w.heap.size + 1 + 1 + 1 ≤ w1.heap.size := hG
      generalize (World.setCell (World.setCell w2 ⟨w1.heap.size, 8, none⟩ (.int .i64 (events + 1))) ⟨w1.heap.size, 10, none⟩ (.int .i64 es)) = Wz at *
      generalize w1.heap.size = G at *
      clear hx1 hx2 K3 KJ
    rotate_left 1
    all_goals
      go_split_ands
      have p0 := e6.cell 0
      have p1 := e6.cell 1
      have p2 := e6.cell 2
      have p3 := e6.cell 3
      have p4 := e6.cell 4
      have p5 := e6.cell 5
      have p6 := e6.cell 6
      have p7 := e6.cell 7
      have p8 := e6.cell 8
      have p9 := e6.cell 9
      have p10 := e6.cell 10
      have p11 := e6.cell 11
      have y1 := e6.frozen 1
      have y2 := e6.frozen 2
      have y3 := e6.frozen 3
      have y4 := e6.frozen 4
      have y5 := e6.frozen 5
      have y6 := e6.frozen 6
      have y7 := e6.frozen 7
      have y8 := e6.frozen 8
      have y9 := e6.frozen 9
      have y10 := e6.frozen 10
      have y11 := e6.frozen 11
      have Ho := Lib.hid oz
      go_upto_region 24 with fail
      have e6 : Blk (World.setCell Wz ⟨G, 6, none⟩ (.int .i64 (paid + ep))) G 25 #[.int .i64 order, .int .i64 status, .int .i64 prior, .int .i64 cur, .int .i64 tax, .slice A1 n c1, .int .i64 (paid + ep), .int .i64 refunded, .int .i64 (events + 1), .int .i64 refused, .int .i64 sv, .string wv] := Blk_eq (BlkS e6) rfl
      have e4 : Blk (World.setCell Wz ⟨G, 6, none⟩ (.int .i64 (paid + ep))) (w.heap.size + 1 + 1) 25 #[.int .i64 0, .int .i64 0, .int .i64 0, .int .i64 0, .int .i64 0, .slice none 0 0, .int .i64 0, .int .i64 0, .int .i64 0, .int .i64 0, .int .i64 0, .string ⟨#[]⟩] := BlkF hn4 e4
      have oz : OwnLs (World.setCell Wz ⟨G, 6, none⟩ (.int .i64 (paid + ep))) (w.heap.size + 1 + 1 + 1) A1 ls c1 := OwnSt HN.out oz
      have hXz : Ext (((w.alloc (.cells #[.int .i64 order, .int .i64 status, .int .i64 prior, .int .i64 cur, .int .i64 tax, .slice A n c, .int .i64 paid, .int .i64 refunded, .int .i64 events, .int .i64 refused, .int .i64 stamp, .string who] 25)).alloc (.cells #[.int .i64 ek, .int .i64 eo, .int .i64 ei, .int .i64 eq, .int .i64 ep, .int .i64 ec, .int .i64 et, .string ew, .int .i64 es, .string en] 28)).alloc (.cells #[.int .i64 0, .int .i64 0, .int .i64 0, .int .i64 0, .int .i64 0, .slice none 0 0, .int .i64 0, .int .i64 0, .int .i64 0, .int .i64 0, .int .i64 0, .string ⟨#[]⟩] 25)) (World.setCell Wz ⟨G, 6, none⟩ (.int .i64 (paid + ep))) := exA
      clear Ho p0 p1 p2 p3 p4 p5 p6 p7 p8 p9 p10 p11 y1 y2 y3 y4 y5 y6 y7 y8 y9 y10 y11
      generalize (World.setCell Wz ⟨G, 6, none⟩ (.int .i64 (paid + ep))) = Wy at *
      have bs : Blk Wy w.heap.size 25 #[.int .i64 order, .int .i64 status, .int .i64 prior, .int .i64 cur, .int .i64 tax, .slice A n c, .int .i64 paid, .int .i64 refunded, .int .i64 events, .int .i64 refused, .int .i64 stamp, .string who] := Ext.blk hXz (BlkA (BlkA (BlkN rfl)))
      have hXw : Ext w Wy := Ext.tr (ExtA (ExtA (ExtA (Ext.rfl' w)))) hXz
      refine wp_region_held_drew (S := fun w' => Ext Wy w') (by kernel_rfl) (ExtD (Ext.rfl' _)) (fun hS => ?_)
      refine takeD (some 84) (i := 0) (v := .pointer (some ⟨G, 6, none⟩)) rfl rfl (by kernel_rfl) (by kernel_rfl) (by kernel_rfl) (fun _ _ _ h => h) (Or.inl ⟨by kernel_rfl, fun w9 hSw => by go_simp⟩) hS ?_; (try simp only [Act.put, List.setIfInBounds_toArray, List.set_cons_zero, List.set_cons_succ])
      refine takeD (some 85) (i := 1) (v := .int .i64 (paid + ep)) rfl rfl (by kernel_rfl) (by kernel_rfl) (by kernel_rfl) (fun _ _ _ h => h) (Or.inl ⟨by kernel_rfl, fun w9 hSw => by have hc := (BlkE e6 hSw).cell 6; have hc2 : w9.cell? ⟨G, 6, none⟩ = some (.int .i64 (paid + ep)) := hc; clear hc; go_simp⟩) hS ?_; (try simp only [Act.put, List.setIfInBounds_toArray, List.set_cons_zero, List.set_cons_succ])
      refine takeD (some 86) (i := 2) (v := .agg #[.int .i64 order, .int .i64 status, .int .i64 prior, .int .i64 cur, .int .i64 tax, .slice A n c, .int .i64 paid, .int .i64 refunded, .int .i64 events, .int .i64 refused, .int .i64 stamp, .string who]) rfl rfl (by kernel_rfl) (by kernel_rfl) (by kernel_rfl) (fun _ _ _ h => h) (yields_row (by kernel_rfl) 25 (.tmp 2) rfl w.heap.size 25 #[.int .i64 order, .int .i64 status, .int .i64 prior, .int .i64 cur, .int .i64 tax, .slice A n c, .int .i64 paid, .int .i64 refunded, .int .i64 events, .int .i64 refused, .int .i64 stamp, .string who] 12 rfl (fun w9 hw => BlkE bs hw) st_wide rfl) hS ?_; (try simp only [Act.put, List.setIfInBounds_toArray, List.set_cons_zero, List.set_cons_succ])
      refine wpAnyH_ready (rs := [3]) (by kernel_rfl) (by simp) (AllReadyH.cons rfl (fun K hK => ?_) AllReadyH.nil)
      (refine step_call rfl (some 87) rfl 24 _ Try.func24 (by kernel_rfl) (by kernel_rfl) _ _ rfl #[.agg #[.int .i64 order, .int .i64 status, .int .i64 prior, .int .i64 cur, .int .i64 tax, .slice A n c, .int .i64 paid, .int .i64 refunded, .int .i64 events, .int .i64 refused, .int .i64 stamp, .string who]] (by simp [Act.eval, Act.put]) _ (KD.out _ (hr.ext (Ext.tr hXw hS))) ?_; intro w5 hx5; refine hK.out _ _ (Ext.tr hS hx5) ?_; intro hS; clear hK hx5; (try simp only [Act.put, List.setIfInBounds_toArray, List.set_cons_zero, List.set_cons_succ]))
      refine takeD (some 88) (i := 4) (v := .bool true) rfl rfl (by kernel_rfl) (by kernel_rfl) (by kernel_rfl) (fun _ _ _ h => h) (Or.inl ⟨by kernel_rfl, fun w9 hSw => by go_simp⟩) hS ?_; (try simp only [Act.put, List.setIfInBounds_toArray, List.set_cons_zero, List.set_cons_succ])
      refine wpAnyH_done (by kernel_rfl) ?_ _
      have e6 := BlkE e6 hS
      have e4 := BlkE e4 hS
      have Ho := Lib.hid (OwnLs.mono oz hS)
      clear oz
      have p0 := e6.cell 0
      have p1 := e6.cell 1
      have p2 := e6.cell 2
      have p3 := e6.cell 3
      have p4 := e6.cell 4
      have p5 := e6.cell 5
      have p6 := e6.cell 6
      have p7 := e6.cell 7
      have p8 := e6.cell 8
      have p9 := e6.cell 9
      have p10 := e6.cell 10
      have p11 := e6.cell 11
      have y1 := e6.frozen 1
      go_wp2_with (with_reducible refine wpL_store_row rfl 25 (.tmp 4) (.tmp 154) rfl _ 25 _ _ rfl rfl (show Blk _ (w.heap.size + 1 + 1) 25 #[.int .i64 0, .int .i64 0, .int .i64 0, .int .i64 0, .int .i64 0, .slice none 0 0, .int .i64 0, .int .i64 0, .int .i64 0, .int .i64 0, .int .i64 0, .string ⟨#[]⟩] from bkV) ((st_size' _ _ _ _ _ _ _ _ _ _ _ _ _ _).trans (st_size' _ _ _ _ _ _ _ _ _ _ _ _ _ _).symm) (st_one' _ _ _ _ _ _ _ _ _ _ _ _ _ _) 12 st_wide (st_size' _ _ _ _ _ _ _ _ _ _ _ _ _ _) ?_)
      refine bodyPost_ret (res_row_t rfl _ _ 25 _ 12 _ rfl rfl (Blk.setRow_ (show Blk _ (w.heap.size + 1 + 1) 25 #[.int .i64 0, .int .i64 0, .int .i64 0, .int .i64 0, .int .i64 0, .slice none 0 0, .int .i64 0, .int .i64 0, .int .i64 0, .int .i64 0, .int .i64 0, .string ⟨#[]⟩] from bkV)) st_wide rfl) rfl ?_
      exact ⟨A1, c1, rfl, exA, own_less (OwnRw HN4.out (show OwnLs _ (w.heap.size + 1 + 1 + 1) A1 ls c1 from (by repeat (first | with_reducible assumption | with_reducible exact Ho.out | with_reducible refine OwnD ?_ | with_reducible refine OwnDN ?_ | with_reducible refine OwnA ?_ | with_reducible refine OwnSt HN.out ?_ | with_reducible refine OwnLs.mono ?_ (by with_reducible assumption))))) (by omega)⟩
  · have d1 : (paid + ep == D) = false := by simp; exact hD
    rw [if_neg hD]
    clear hD
    generalize hsv : (if stamp < es then es else stamp) = sv
    generalize hwv : (if ew.size = 0 then who else ew) = wv
    refine four (p := stamp < es) (q := ew.size = 0) ?aax ?abx ?bax ?bbx
    case' aax => intro hst hwz; rw [if_pos hst] at hsv; rw [if_pos hwz] at hwv; have hwt : ew.toList.isEmpty = true := by rw [who_empty]; simpa using hwz
    case' abx => intro hst hwz; rw [if_pos hst] at hsv; rw [if_neg hwz] at hwv; have hwt : ew.toList.isEmpty = false := by rw [who_empty]; simpa using hwz
    case' bax => intro hst hwz; rw [if_neg hst] at hsv; rw [if_pos hwz] at hwv; have hwt : ew.toList.isEmpty = true := by rw [who_empty]; simpa using hwz
    case' bbx => intro hst hwz; rw [if_neg hst] at hsv; rw [if_neg hwz] at hwv; have hwt : ew.toList.isEmpty = false := by rw [who_empty]; simpa using hwz
    all_goals
      have Hsv := Lib.hid hsv
      have Hwv := Lib.hid hwv
      clear hsv hwv hwz
      go_enter Try.func26, Try.ntmps26
      go_upto_region 13 with (first | (go_at_call 15; (with_reducible refine (K3.out _ (hr.ext exA)).mono ?_); rintro e w1 ⟨A1, c1, rfl, hx1, ho1⟩; have hG : w.heap.size + 1 + 1 + 1 ≤ w1.heap.size := (by have := hx1.size; simpa using this); have hn0 : ¬ (w.heap.size = w1.heap.size) := (by omega); have hn1 : ¬ (w1.heap.size = w.heap.size) := (by omega); have hn2 : ¬ (w.heap.size + 1 = w1.heap.size) := (by omega); have hn3 : ¬ (w1.heap.size = w.heap.size + 1) := (by omega); have hn4 : ¬ (w.heap.size + 1 + 1 = w1.heap.size) := (by omega); have hn5 : ¬ (w1.heap.size = w.heap.size + 1 + 1) := (by omega); have h3 := HS.out (w1.alloc (.cells #[.int .i64 order, .int .i64 status, .int .i64 prior, .int .i64 cur, .int .i64 tax, .slice A1 n c1, .int .i64 paid, .int .i64 refunded, .int .i64 events, .int .i64 refused, .int .i64 stamp, .string who] 25)) (ExtA hx1); go_split_ands) | (go_at_call 25; (with_reducible refine (KJ.out _ (hr.ext exA)).mono ?_); rintro e w2 ⟨rfl, hx2⟩; have d6 : Blk w2 w1.heap.size 25 #[.int .i64 order, .int .i64 status, .int .i64 prior, .int .i64 cur, .int .i64 tax, .slice A1 n c1, .int .i64 paid, .int .i64 refunded, .int .i64 events, .int .i64 refused, .int .i64 stamp, .string who] := BlkE (BlkN rfl) hx2; have d4 : Blk w2 (w.heap.size + 1 + 1) 25 #[.int .i64 0, .int .i64 0, .int .i64 0, .int .i64 0, .int .i64 0, .slice none 0 0, .int .i64 0, .int .i64 0, .int .i64 0, .int .i64 0, .int .i64 0, .string ⟨#[]⟩] := BlkE (BlkA (BlkE (BlkN (by simp)) hx1)) hx2; have o2 : OwnLs w2 (w.heap.size + 1 + 1 + 1) A1 ls c1 := own_less (OwnLs.mono (OwnA ho1) hx2) (by simp); have HN := Lib.hid (own_apart o2 d6); have HN4 := Lib.hid (own_apart o2 d4); have Ho := Lib.hid o2; have h3 := HS.out w2 (Ext.tr (ExtA hx1) hx2); go_split_ands; (have p0 : World.cell? w2 ⟨w1.heap.size, 0, none⟩ = some (.int .i64 order) := Blk.cell d6 0; have p1 : World.cell? w2 ⟨w1.heap.size, 1, none⟩ = some (.int .i64 status) := Blk.cell d6 1; have p2 : World.cell? w2 ⟨w1.heap.size, 2, none⟩ = some (.int .i64 prior) := Blk.cell d6 2; have p3 : World.cell? w2 ⟨w1.heap.size, 3, none⟩ = some (.int .i64 cur) := Blk.cell d6 3; have p4 : World.cell? w2 ⟨w1.heap.size, 4, none⟩ = some (.int .i64 tax) := Blk.cell d6 4; have p5 : World.cell? w2 ⟨w1.heap.size, 5, none⟩ = some _ := Blk.cell d6 5; have p6 : World.cell? w2 ⟨w1.heap.size, 6, none⟩ = some (.int .i64 paid) := Blk.cell d6 6; have p7 : World.cell? w2 ⟨w1.heap.size, 7, none⟩ = some (.int .i64 refunded) := Blk.cell d6 7; have p8 : World.cell? w2 ⟨w1.heap.size, 8, none⟩ = some (.int .i64 events) := Blk.cell d6 8; have p9 : World.cell? w2 ⟨w1.heap.size, 9, none⟩ = some (.int .i64 refused) := Blk.cell d6 9; have p10 : World.cell? w2 ⟨w1.heap.size, 10, none⟩ = some (.int .i64 stamp) := Blk.cell d6 10; have p11 : World.cell? w2 ⟨w1.heap.size, 11, none⟩ = some (.string who) := Blk.cell d6 11); have y1 := d6.frozen 1; have y2 := d6.frozen 2; have y3 := d6.frozen 3; have y4 := d6.frozen 4; have y5 := d6.frozen 5; have y6 := d6.frozen 6; have y7 := d6.frozen 7; have y8 := d6.frozen 8; have y9 := d6.frozen 9; have y10 := d6.frozen 10; have y11 := d6.frozen 11))
    case' _ =>
      have e6 : Blk (World.setCell (World.setCell w2 ⟨w1.heap.size, 8, none⟩ (.int .i64 (events + 1))) ⟨w1.heap.size, 11, none⟩ (.string ew)) w1.heap.size 25 #[.int .i64 order, .int .i64 status, .int .i64 prior, .int .i64 cur, .int .i64 tax, .slice A1 n c1, .int .i64 paid, .int .i64 refunded, .int .i64 (events + 1), .int .i64 refused, .int .i64 sv, .string wv] := Blk_eq (BlkS (BlkS d6)) (by rw [← Hsv.out, ← Hwv.out]; rfl)
      have e4 : Blk (World.setCell (World.setCell w2 ⟨w1.heap.size, 8, none⟩ (.int .i64 (events + 1))) ⟨w1.heap.size, 11, none⟩ (.string ew)) (w.heap.size + 1 + 1) 25 #[.int .i64 0, .int .i64 0, .int .i64 0, .int .i64 0, .int .i64 0, .slice none 0 0, .int .i64 0, .int .i64 0, .int .i64 0, .int .i64 0, .int .i64 0, .string ⟨#[]⟩] := bkV
      have oz : OwnLs (World.setCell (World.setCell w2 ⟨w1.heap.size, 8, none⟩ (.int .i64 (events + 1))) ⟨w1.heap.size, 11, none⟩ (.string ew)) (w.heap.size + 1 + 1 + 1) A1 ls c1 := (OwnSt HN.out (OwnSt HN.out o2))
      have hXz : Ext (((w.alloc (.cells #[.int .i64 order, .int .i64 status, .int .i64 prior, .int .i64 cur, .int .i64 tax, .slice A n c, .int .i64 paid, .int .i64 refunded, .int .i64 events, .int .i64 refused, .int .i64 stamp, .string who] 25)).alloc (.cells #[.int .i64 ek, .int .i64 eo, .int .i64 ei, .int .i64 eq, .int .i64 ep, .int .i64 ec, .int .i64 et, .string ew, .int .i64 es, .string en] 28)).alloc (.cells #[.int .i64 0, .int .i64 0, .int .i64 0, .int .i64 0, .int .i64 0, .slice none 0 0, .int .i64 0, .int .i64 0, .int .i64 0, .int .i64 0, .int .i64 0, .string ⟨#[]⟩] 25)) (World.setCell (World.setCell w2 ⟨w1.heap.size, 8, none⟩ (.int .i64 (events + 1))) ⟨w1.heap.size, 11, none⟩ (.string ew)) := exA
      have hz3 := HS.out (World.setCell (World.setCell w2 ⟨w1.heap.size, 8, none⟩ (.int .i64 (events + 1))) ⟨w1.heap.size, 11, none⟩ (.string ew)) hXz
      clear p0 p1 p2 p3 p4 p5 p6 p7 p8 p9 p10 p11 y1 y2 y3 y4 y5 y6 y7 y8 y9 y10 y11 d6 d4 o2 Ho ho1
      have hX1 : w.heap.size + 1 + 1 + 1 ≤ w1.heap.size := hG
      generalize (World.setCell (World.setCell w2 ⟨w1.heap.size, 8, none⟩ (.int .i64 (events + 1))) ⟨w1.heap.size, 11, none⟩ (.string ew)) = Wz at *
      generalize w1.heap.size = G at *
      clear hx1 hx2 K3 KJ
    rotate_left 1
    case' _ =>
      have e6 : Blk (World.setCell w2 ⟨w1.heap.size, 8, none⟩ (.int .i64 (events + 1))) w1.heap.size 25 #[.int .i64 order, .int .i64 status, .int .i64 prior, .int .i64 cur, .int .i64 tax, .slice A1 n c1, .int .i64 paid, .int .i64 refunded, .int .i64 (events + 1), .int .i64 refused, .int .i64 sv, .string wv] := Blk_eq (BlkS d6) (by rw [← Hsv.out, ← Hwv.out]; rfl)
      have e4 : Blk (World.setCell w2 ⟨w1.heap.size, 8, none⟩ (.int .i64 (events + 1))) (w.heap.size + 1 + 1) 25 #[.int .i64 0, .int .i64 0, .int .i64 0, .int .i64 0, .int .i64 0, .slice none 0 0, .int .i64 0, .int .i64 0, .int .i64 0, .int .i64 0, .int .i64 0, .string ⟨#[]⟩] := bkV
      have oz : OwnLs (World.setCell w2 ⟨w1.heap.size, 8, none⟩ (.int .i64 (events + 1))) (w.heap.size + 1 + 1 + 1) A1 ls c1 := (OwnSt HN.out o2)
      have hXz : Ext (((w.alloc (.cells #[.int .i64 order, .int .i64 status, .int .i64 prior, .int .i64 cur, .int .i64 tax, .slice A n c, .int .i64 paid, .int .i64 refunded, .int .i64 events, .int .i64 refused, .int .i64 stamp, .string who] 25)).alloc (.cells #[.int .i64 ek, .int .i64 eo, .int .i64 ei, .int .i64 eq, .int .i64 ep, .int .i64 ec, .int .i64 et, .string ew, .int .i64 es, .string en] 28)).alloc (.cells #[.int .i64 0, .int .i64 0, .int .i64 0, .int .i64 0, .int .i64 0, .slice none 0 0, .int .i64 0, .int .i64 0, .int .i64 0, .int .i64 0, .int .i64 0, .string ⟨#[]⟩] 25)) (World.setCell w2 ⟨w1.heap.size, 8, none⟩ (.int .i64 (events + 1))) := exA
      have hz3 := HS.out (World.setCell w2 ⟨w1.heap.size, 8, none⟩ (.int .i64 (events + 1))) hXz
      clear p0 p1 p2 p3 p4 p5 p6 p7 p8 p9 p10 p11 y1 y2 y3 y4 y5 y6 y7 y8 y9 y10 y11 d6 d4 o2 Ho ho1
      have hX1 : w.heap.size + 1 + 1 + 1 ≤ w1.heap.size := hG
      generalize (World.setCell w2 ⟨w1.heap.size, 8, none⟩ (.int .i64 (events + 1))) = Wz at *
      generalize w1.heap.size = G at *
      clear hx1 hx2 K3 KJ
    rotate_left 1
    case' _ =>
      have e6 : Blk (World.setCell (World.setCell (World.setCell w2 ⟨w1.heap.size, 8, none⟩ (.int .i64 (events + 1))) ⟨w1.heap.size, 10, none⟩ (.int .i64 es)) ⟨w1.heap.size, 11, none⟩ (.string ew)) w1.heap.size 25 #[.int .i64 order, .int .i64 status, .int .i64 prior, .int .i64 cur, .int .i64 tax, .slice A1 n c1, .int .i64 paid, .int .i64 refunded, .int .i64 (events + 1), .int .i64 refused, .int .i64 sv, .string wv] := Blk_eq (BlkS (BlkS (BlkS d6))) (by rw [← Hsv.out, ← Hwv.out]; rfl)
      have e4 : Blk (World.setCell (World.setCell (World.setCell w2 ⟨w1.heap.size, 8, none⟩ (.int .i64 (events + 1))) ⟨w1.heap.size, 10, none⟩ (.int .i64 es)) ⟨w1.heap.size, 11, none⟩ (.string ew)) (w.heap.size + 1 + 1) 25 #[.int .i64 0, .int .i64 0, .int .i64 0, .int .i64 0, .int .i64 0, .slice none 0 0, .int .i64 0, .int .i64 0, .int .i64 0, .int .i64 0, .int .i64 0, .string ⟨#[]⟩] := bkV
      have oz : OwnLs (World.setCell (World.setCell (World.setCell w2 ⟨w1.heap.size, 8, none⟩ (.int .i64 (events + 1))) ⟨w1.heap.size, 10, none⟩ (.int .i64 es)) ⟨w1.heap.size, 11, none⟩ (.string ew)) (w.heap.size + 1 + 1 + 1) A1 ls c1 := (OwnSt HN.out (OwnSt HN.out (OwnSt HN.out o2)))
      have hXz : Ext (((w.alloc (.cells #[.int .i64 order, .int .i64 status, .int .i64 prior, .int .i64 cur, .int .i64 tax, .slice A n c, .int .i64 paid, .int .i64 refunded, .int .i64 events, .int .i64 refused, .int .i64 stamp, .string who] 25)).alloc (.cells #[.int .i64 ek, .int .i64 eo, .int .i64 ei, .int .i64 eq, .int .i64 ep, .int .i64 ec, .int .i64 et, .string ew, .int .i64 es, .string en] 28)).alloc (.cells #[.int .i64 0, .int .i64 0, .int .i64 0, .int .i64 0, .int .i64 0, .slice none 0 0, .int .i64 0, .int .i64 0, .int .i64 0, .int .i64 0, .int .i64 0, .string ⟨#[]⟩] 25)) (World.setCell (World.setCell (World.setCell w2 ⟨w1.heap.size, 8, none⟩ (.int .i64 (events + 1))) ⟨w1.heap.size, 10, none⟩ (.int .i64 es)) ⟨w1.heap.size, 11, none⟩ (.string ew)) := exA
      have hz3 := HS.out (World.setCell (World.setCell (World.setCell w2 ⟨w1.heap.size, 8, none⟩ (.int .i64 (events + 1))) ⟨w1.heap.size, 10, none⟩ (.int .i64 es)) ⟨w1.heap.size, 11, none⟩ (.string ew)) hXz
      clear p0 p1 p2 p3 p4 p5 p6 p7 p8 p9 p10 p11 y1 y2 y3 y4 y5 y6 y7 y8 y9 y10 y11 d6 d4 o2 Ho ho1
      have hX1 : w.heap.size + 1 + 1 + 1 ≤ w1.heap.size := hG
      generalize (World.setCell (World.setCell (World.setCell w2 ⟨w1.heap.size, 8, none⟩ (.int .i64 (events + 1))) ⟨w1.heap.size, 10, none⟩ (.int .i64 es)) ⟨w1.heap.size, 11, none⟩ (.string ew)) = Wz at *
      generalize w1.heap.size = G at *
      clear hx1 hx2 K3 KJ
    rotate_left 1
    case' _ =>
      have e6 : Blk (World.setCell (World.setCell w2 ⟨w1.heap.size, 8, none⟩ (.int .i64 (events + 1))) ⟨w1.heap.size, 10, none⟩ (.int .i64 es)) w1.heap.size 25 #[.int .i64 order, .int .i64 status, .int .i64 prior, .int .i64 cur, .int .i64 tax, .slice A1 n c1, .int .i64 paid, .int .i64 refunded, .int .i64 (events + 1), .int .i64 refused, .int .i64 sv, .string wv] := Blk_eq (BlkS (BlkS d6)) (by rw [← Hsv.out, ← Hwv.out]; rfl)
      have e4 : Blk (World.setCell (World.setCell w2 ⟨w1.heap.size, 8, none⟩ (.int .i64 (events + 1))) ⟨w1.heap.size, 10, none⟩ (.int .i64 es)) (w.heap.size + 1 + 1) 25 #[.int .i64 0, .int .i64 0, .int .i64 0, .int .i64 0, .int .i64 0, .slice none 0 0, .int .i64 0, .int .i64 0, .int .i64 0, .int .i64 0, .int .i64 0, .string ⟨#[]⟩] := bkV
      have oz : OwnLs (World.setCell (World.setCell w2 ⟨w1.heap.size, 8, none⟩ (.int .i64 (events + 1))) ⟨w1.heap.size, 10, none⟩ (.int .i64 es)) (w.heap.size + 1 + 1 + 1) A1 ls c1 := (OwnSt HN.out (OwnSt HN.out o2))
      have hXz : Ext (((w.alloc (.cells #[.int .i64 order, .int .i64 status, .int .i64 prior, .int .i64 cur, .int .i64 tax, .slice A n c, .int .i64 paid, .int .i64 refunded, .int .i64 events, .int .i64 refused, .int .i64 stamp, .string who] 25)).alloc (.cells #[.int .i64 ek, .int .i64 eo, .int .i64 ei, .int .i64 eq, .int .i64 ep, .int .i64 ec, .int .i64 et, .string ew, .int .i64 es, .string en] 28)).alloc (.cells #[.int .i64 0, .int .i64 0, .int .i64 0, .int .i64 0, .int .i64 0, .slice none 0 0, .int .i64 0, .int .i64 0, .int .i64 0, .int .i64 0, .int .i64 0, .string ⟨#[]⟩] 25)) (World.setCell (World.setCell w2 ⟨w1.heap.size, 8, none⟩ (.int .i64 (events + 1))) ⟨w1.heap.size, 10, none⟩ (.int .i64 es)) := exA
      have hz3 := HS.out (World.setCell (World.setCell w2 ⟨w1.heap.size, 8, none⟩ (.int .i64 (events + 1))) ⟨w1.heap.size, 10, none⟩ (.int .i64 es)) hXz
      clear p0 p1 p2 p3 p4 p5 p6 p7 p8 p9 p10 p11 y1 y2 y3 y4 y5 y6 y7 y8 y9 y10 y11 d6 d4 o2 Ho ho1
      have hX1 : w.heap.size + 1 + 1 + 1 ≤ w1.heap.size := hG
      generalize (World.setCell (World.setCell w2 ⟨w1.heap.size, 8, none⟩ (.int .i64 (events + 1))) ⟨w1.heap.size, 10, none⟩ (.int .i64 es)) = Wz at *
      generalize w1.heap.size = G at *
      clear hx1 hx2 K3 KJ
    rotate_left 1
    all_goals
      go_split_ands
      have p0 := e6.cell 0
      have p1 := e6.cell 1
      have p2 := e6.cell 2
      have p3 := e6.cell 3
      have p4 := e6.cell 4
      have p5 := e6.cell 5
      have p6 := e6.cell 6
      have p7 := e6.cell 7
      have p8 := e6.cell 8
      have p9 := e6.cell 9
      have p10 := e6.cell 10
      have p11 := e6.cell 11
      have y1 := e6.frozen 1
      have y2 := e6.frozen 2
      have y3 := e6.frozen 3
      have y4 := e6.frozen 4
      have y5 := e6.frozen 5
      have y6 := e6.frozen 6
      have y7 := e6.frozen 7
      have y8 := e6.frozen 8
      have y9 := e6.frozen 9
      have y10 := e6.frozen 10
      have y11 := e6.frozen 11
      have Ho := Lib.hid oz
      go_upto_region 24 with fail
      have e6 : Blk (World.setCell Wz ⟨G, 6, none⟩ (.int .i64 (paid + ep))) G 25 #[.int .i64 order, .int .i64 status, .int .i64 prior, .int .i64 cur, .int .i64 tax, .slice A1 n c1, .int .i64 (paid + ep), .int .i64 refunded, .int .i64 (events + 1), .int .i64 refused, .int .i64 sv, .string wv] := Blk_eq (BlkS e6) rfl
      have e4 : Blk (World.setCell Wz ⟨G, 6, none⟩ (.int .i64 (paid + ep))) (w.heap.size + 1 + 1) 25 #[.int .i64 0, .int .i64 0, .int .i64 0, .int .i64 0, .int .i64 0, .slice none 0 0, .int .i64 0, .int .i64 0, .int .i64 0, .int .i64 0, .int .i64 0, .string ⟨#[]⟩] := BlkF hn4 e4
      have oz : OwnLs (World.setCell Wz ⟨G, 6, none⟩ (.int .i64 (paid + ep))) (w.heap.size + 1 + 1 + 1) A1 ls c1 := OwnSt HN.out oz
      have hXz : Ext (((w.alloc (.cells #[.int .i64 order, .int .i64 status, .int .i64 prior, .int .i64 cur, .int .i64 tax, .slice A n c, .int .i64 paid, .int .i64 refunded, .int .i64 events, .int .i64 refused, .int .i64 stamp, .string who] 25)).alloc (.cells #[.int .i64 ek, .int .i64 eo, .int .i64 ei, .int .i64 eq, .int .i64 ep, .int .i64 ec, .int .i64 et, .string ew, .int .i64 es, .string en] 28)).alloc (.cells #[.int .i64 0, .int .i64 0, .int .i64 0, .int .i64 0, .int .i64 0, .slice none 0 0, .int .i64 0, .int .i64 0, .int .i64 0, .int .i64 0, .int .i64 0, .string ⟨#[]⟩] 25)) (World.setCell Wz ⟨G, 6, none⟩ (.int .i64 (paid + ep))) := exA
      clear Ho p0 p1 p2 p3 p4 p5 p6 p7 p8 p9 p10 p11 y1 y2 y3 y4 y5 y6 y7 y8 y9 y10 y11
      generalize (World.setCell Wz ⟨G, 6, none⟩ (.int .i64 (paid + ep))) = Wy at *
      have bs : Blk Wy w.heap.size 25 #[.int .i64 order, .int .i64 status, .int .i64 prior, .int .i64 cur, .int .i64 tax, .slice A n c, .int .i64 paid, .int .i64 refunded, .int .i64 events, .int .i64 refused, .int .i64 stamp, .string who] := Ext.blk hXz (BlkA (BlkA (BlkN rfl)))
      have hXw : Ext w Wy := Ext.tr (ExtA (ExtA (ExtA (Ext.rfl' w)))) hXz
      refine wp_region_held_drew (S := fun w' => Ext Wy w') (by kernel_rfl) (ExtD (Ext.rfl' _)) (fun hS => ?_)
      refine takeD (some 84) (i := 0) (v := .pointer (some ⟨G, 6, none⟩)) rfl rfl (by kernel_rfl) (by kernel_rfl) (by kernel_rfl) (fun _ _ _ h => h) (Or.inl ⟨by kernel_rfl, fun w9 hSw => by go_simp⟩) hS ?_; (try simp only [Act.put, List.setIfInBounds_toArray, List.set_cons_zero, List.set_cons_succ])
      refine takeD (some 85) (i := 1) (v := .int .i64 (paid + ep)) rfl rfl (by kernel_rfl) (by kernel_rfl) (by kernel_rfl) (fun _ _ _ h => h) (Or.inl ⟨by kernel_rfl, fun w9 hSw => by have hc := (BlkE e6 hSw).cell 6; have hc2 : w9.cell? ⟨G, 6, none⟩ = some (.int .i64 (paid + ep)) := hc; clear hc; go_simp⟩) hS ?_; (try simp only [Act.put, List.setIfInBounds_toArray, List.set_cons_zero, List.set_cons_succ])
      refine takeD (some 86) (i := 2) (v := .agg #[.int .i64 order, .int .i64 status, .int .i64 prior, .int .i64 cur, .int .i64 tax, .slice A n c, .int .i64 paid, .int .i64 refunded, .int .i64 events, .int .i64 refused, .int .i64 stamp, .string who]) rfl rfl (by kernel_rfl) (by kernel_rfl) (by kernel_rfl) (fun _ _ _ h => h) (yields_row (by kernel_rfl) 25 (.tmp 2) rfl w.heap.size 25 #[.int .i64 order, .int .i64 status, .int .i64 prior, .int .i64 cur, .int .i64 tax, .slice A n c, .int .i64 paid, .int .i64 refunded, .int .i64 events, .int .i64 refused, .int .i64 stamp, .string who] 12 rfl (fun w9 hw => BlkE bs hw) st_wide rfl) hS ?_; (try simp only [Act.put, List.setIfInBounds_toArray, List.set_cons_zero, List.set_cons_succ])
      refine wpAnyH_ready (rs := [3]) (by kernel_rfl) (by simp) (AllReadyH.cons rfl (fun K hK => ?_) AllReadyH.nil)
      (refine step_call rfl (some 87) rfl 24 _ Try.func24 (by kernel_rfl) (by kernel_rfl) _ _ rfl #[.agg #[.int .i64 order, .int .i64 status, .int .i64 prior, .int .i64 cur, .int .i64 tax, .slice A n c, .int .i64 paid, .int .i64 refunded, .int .i64 events, .int .i64 refused, .int .i64 stamp, .string who]] (by simp [Act.eval, Act.put]) _ (KD.out _ (hr.ext (Ext.tr hXw hS))) ?_; intro w5 hx5; refine hK.out _ _ (Ext.tr hS hx5) ?_; intro hS; clear hK hx5; (try simp only [Act.put, List.setIfInBounds_toArray, List.set_cons_zero, List.set_cons_succ]))
      refine takeD (some 88) (i := 4) (v := .bool false) rfl rfl (by kernel_rfl) (by kernel_rfl) (by kernel_rfl) (fun _ _ _ h => h) (Or.inl ⟨by kernel_rfl, fun w9 hSw => by go_simp⟩) hS ?_; (try simp only [Act.put, List.setIfInBounds_toArray, List.set_cons_zero, List.set_cons_succ])
      refine wpAnyH_done (by kernel_rfl) ?_ _
      have e6 := BlkE e6 hS
      have e4 := BlkE e4 hS
      have Ho := Lib.hid (OwnLs.mono oz hS)
      clear oz
      have p0 := e6.cell 0
      have p1 := e6.cell 1
      have p2 := e6.cell 2
      have p3 := e6.cell 3
      have p4 := e6.cell 4
      have p5 := e6.cell 5
      have p6 := e6.cell 6
      have p7 := e6.cell 7
      have p8 := e6.cell 8
      have p9 := e6.cell 9
      have p10 := e6.cell 10
      have p11 := e6.cell 11
      have y1 := e6.frozen 1
      go_wp2_with (with_reducible refine wpL_store_row rfl 25 (.tmp 4) (.tmp 154) rfl _ 25 _ _ rfl rfl (show Blk _ (w.heap.size + 1 + 1) 25 #[.int .i64 0, .int .i64 0, .int .i64 0, .int .i64 0, .int .i64 0, .slice none 0 0, .int .i64 0, .int .i64 0, .int .i64 0, .int .i64 0, .int .i64 0, .string ⟨#[]⟩] from bkV) ((st_size' _ _ _ _ _ _ _ _ _ _ _ _ _ _).trans (st_size' _ _ _ _ _ _ _ _ _ _ _ _ _ _).symm) (st_one' _ _ _ _ _ _ _ _ _ _ _ _ _ _) 12 st_wide (st_size' _ _ _ _ _ _ _ _ _ _ _ _ _ _) ?_)
      refine bodyPost_ret (res_row_t rfl _ _ 25 _ 12 _ rfl rfl (Blk.setRow_ (show Blk _ (w.heap.size + 1 + 1) 25 #[.int .i64 0, .int .i64 0, .int .i64 0, .int .i64 0, .int .i64 0, .slice none 0 0, .int .i64 0, .int .i64 0, .int .i64 0, .int .i64 0, .int .i64 0, .string ⟨#[]⟩] from bkV)) st_wide rfl) rfl ?_
      exact ⟨A1, c1, rfl, exA, own_less (OwnRw HN4.out (show OwnLs _ (w.heap.size + 1 + 1 + 1) A1 ls c1 from (by repeat (first | with_reducible assumption | with_reducible exact Ho.out | with_reducible refine OwnD ?_ | with_reducible refine OwnDN ?_ | with_reducible refine OwnA ?_ | with_reducible refine OwnSt HN.out ?_ | with_reducible refine OwnLs.mono ?_ (by with_reducible assumption))))) (by omega)⟩
set_option maxRecDepth 100000 in
set_option maxHeartbeats 8000000 in
theorem rapply_6 (s : St) (e : Ev) (A : Option Addr) (c : Nat) (w : World) (hr : LsRd w A s.lines) (hn : s.lines.length ≤ 4398046510976) (hw1 : s.who.size ≤ 4611686018427387904) (hw2 : e.who.size ≤ 4611686018427387904) (hw3 : e.note.size ≤ 4611686018427387904) (hJ : judge s e = 0) (hk : e.kind = 6) :
    Calls Try.prog 26 #[.agg (stcells s A c), .agg (evcells e)] w (ApPost w (rule (bump s e) e) 0) := by
  have hf := fine_of hJ
  have hv := hf.valid
  have he := hf.event
  have hev := hv.events
  have hqt := he.qty
  have hpr := he.price
  have K3 := Lib.hid fun W (h : LsRd W A s.lines) => scopy_any s A c W h (by omega)
  have KJ := Lib.hid fun W (h : LsRd W A s.lines) => rjudge_any s e A c W h (by omega) hw1 hw2 hw3
  rw [hJ] at KJ
  have hR : rule (bump s e) e = ⟨s.order, s.status, s.prior, s.cur, s.tax, more e.item e.price (-e.qty) s.lines, s.paid, s.refunded, s.events + 1, s.refused, (if s.stamp < e.stamp then e.stamp else s.stamp), (if e.who.size = 0 then s.who else e.who)⟩ := by
    unfold rule
    simp [hk, bump, due]
  rw [hR]
  have hw7 : IntKind.i64.wrap (0 - e.qty) = -e.qty := by rw [IntKind.wrap_i64]; omega
  have KW := Lib.hid fun W (h : LsRd W A s.lines) => with_any s e (-e.qty) A c W h hv (by omega)
  generalize more e.item e.price (-e.qty) s.lines = T at *
  have hk1 : ∀ j : Int, j ≠ 6 → (e.kind == j) = false := fun j h => by simp; omega
  have hkK : (e.kind == 6) = true := by simp; exact hk
  clear hn hw1 hw2 hw3 hf hJ hR hv he
  obtain ⟨order, status, prior, cur, tax, ls, paid, refunded, events, refused, stamp, who⟩ := s
  obtain ⟨ek, eo, ei, eq, ep, ec, et, ew, es, en⟩ := e
  unfold CopPost at K3
  unfold WiPost at KW
  unfold stcells evcells at *
  unfold ApPost stcells
  dsimp only at *
  have Hnn : Hid (∃ n, n = ls.length) := Lib.hid ⟨_, rfl⟩
  obtain ⟨n, hnn⟩ := Hnn.out
  rw [← hnn] at K3 KJ KW ⊢
  clear hnn Hnn
  have HS := Lib.hid (fun w' (h : Ext (((w.alloc (.cells #[.int .i64 order, .int .i64 status, .int .i64 prior, .int .i64 cur, .int .i64 tax, .slice A n c, .int .i64 paid, .int .i64 refunded, .int .i64 events, .int .i64 refused, .int .i64 stamp, .string who] 25)).alloc (.cells #[.int .i64 ek, .int .i64 eo, .int .i64 ei, .int .i64 eq, .int .i64 ep, .int .i64 ec, .int .i64 et, .string ew, .int .i64 es, .string en] 28)).alloc (.cells #[.int .i64 0, .int .i64 0, .int .i64 0, .int .i64 0, .int .i64 0, .slice none 0 0, .int .i64 0, .int .i64 0, .int .i64 0, .int .i64 0, .int .i64 0, .string ⟨#[]⟩] 25)) w') => (⟨h, (Ext.blk h (BlkA (BlkA (BlkN rfl)))).cell 0, (Ext.blk h (BlkA (BlkA (BlkN rfl)))).cell 1, (Ext.blk h (BlkA (BlkA (BlkN rfl)))).cell 2, (Ext.blk h (BlkA (BlkA (BlkN rfl)))).cell 3, (Ext.blk h (BlkA (BlkA (BlkN rfl)))).cell 4, (Ext.blk h (BlkA (BlkA (BlkN rfl)))).cell 5, (Ext.blk h (BlkA (BlkA (BlkN rfl)))).cell 6, (Ext.blk h (BlkA (BlkA (BlkN rfl)))).cell 7, (Ext.blk h (BlkA (BlkA (BlkN rfl)))).cell 8, (Ext.blk h (BlkA (BlkA (BlkN rfl)))).cell 9, (Ext.blk h (BlkA (BlkA (BlkN rfl)))).cell 10, (Ext.blk h (BlkA (BlkA (BlkN rfl)))).cell 11, (Ext.blk h (BlkA (BlkN (by simp)))).cell 0, (Ext.blk h (BlkA (BlkN (by simp)))).cell 1, (Ext.blk h (BlkA (BlkN (by simp)))).cell 2, (Ext.blk h (BlkA (BlkN (by simp)))).cell 3, (Ext.blk h (BlkA (BlkN (by simp)))).cell 4, (Ext.blk h (BlkA (BlkN (by simp)))).cell 5, (Ext.blk h (BlkA (BlkN (by simp)))).cell 6, (Ext.blk h (BlkA (BlkN (by simp)))).cell 7, (Ext.blk h (BlkA (BlkN (by simp)))).cell 8, (Ext.blk h (BlkA (BlkN (by simp)))).cell 9⟩ : (fun w' : World => Ext (((w.alloc (.cells #[.int .i64 order, .int .i64 status, .int .i64 prior, .int .i64 cur, .int .i64 tax, .slice A n c, .int .i64 paid, .int .i64 refunded, .int .i64 events, .int .i64 refused, .int .i64 stamp, .string who] 25)).alloc (.cells #[.int .i64 ek, .int .i64 eo, .int .i64 ei, .int .i64 eq, .int .i64 ep, .int .i64 ec, .int .i64 et, .string ew, .int .i64 es, .string en] 28)).alloc (.cells #[.int .i64 0, .int .i64 0, .int .i64 0, .int .i64 0, .int .i64 0, .slice none 0 0, .int .i64 0, .int .i64 0, .int .i64 0, .int .i64 0, .int .i64 0, .string ⟨#[]⟩] 25)) w' ∧ w'.cell? ⟨w.heap.size, 0, none⟩ = some (.int .i64 order) ∧ w'.cell? ⟨w.heap.size, 1, none⟩ = some (.int .i64 status) ∧ w'.cell? ⟨w.heap.size, 2, none⟩ = some (.int .i64 prior) ∧ w'.cell? ⟨w.heap.size, 3, none⟩ = some (.int .i64 cur) ∧ w'.cell? ⟨w.heap.size, 4, none⟩ = some (.int .i64 tax) ∧ w'.cell? ⟨w.heap.size, 5, none⟩ = some (.slice A n c) ∧ w'.cell? ⟨w.heap.size, 6, none⟩ = some (.int .i64 paid) ∧ w'.cell? ⟨w.heap.size, 7, none⟩ = some (.int .i64 refunded) ∧ w'.cell? ⟨w.heap.size, 8, none⟩ = some (.int .i64 events) ∧ w'.cell? ⟨w.heap.size, 9, none⟩ = some (.int .i64 refused) ∧ w'.cell? ⟨w.heap.size, 10, none⟩ = some (.int .i64 stamp) ∧ w'.cell? ⟨w.heap.size, 11, none⟩ = some (.string who) ∧ w'.cell? ⟨w.heap.size + 1, 0, none⟩ = some (.int .i64 ek) ∧ w'.cell? ⟨w.heap.size + 1, 1, none⟩ = some (.int .i64 eo) ∧ w'.cell? ⟨w.heap.size + 1, 2, none⟩ = some (.int .i64 ei) ∧ w'.cell? ⟨w.heap.size + 1, 3, none⟩ = some (.int .i64 eq) ∧ w'.cell? ⟨w.heap.size + 1, 4, none⟩ = some (.int .i64 ep) ∧ w'.cell? ⟨w.heap.size + 1, 5, none⟩ = some (.int .i64 ec) ∧ w'.cell? ⟨w.heap.size + 1, 6, none⟩ = some (.int .i64 et) ∧ w'.cell? ⟨w.heap.size + 1, 7, none⟩ = some (.string ew) ∧ w'.cell? ⟨w.heap.size + 1, 8, none⟩ = some (.int .i64 es) ∧ w'.cell? ⟨w.heap.size + 1, 9, none⟩ = some (.string en)) w'))
  have hv1 : IntKind.i64.wrap (events + 1) = events + 1 := by rw [IntKind.wrap_i64]; omega
  have k1 : (ek == 1) = false := hk1 1 (by omega)
  have k2 : (ek == 2) = false := hk1 2 (by omega)
  have k3 : (ek == 3) = false := hk1 3 (by omega)
  have k4 : (ek == 4) = false := hk1 4 (by omega)
  have k5 : (ek == 5) = false := hk1 5 (by omega)
  have k7 : (ek == 7) = false := hk1 7 (by omega)
  have k8 : (ek == 8) = false := hk1 8 (by omega)
  have k9 : (ek == 9) = false := hk1 9 (by omega)
  have k10 : (ek == 10) = false := hk1 10 (by omega)
  clear hk1 hk
  generalize hsv : (if stamp < es then es else stamp) = sv
  generalize hwv : (if ew.size = 0 then who else ew) = wv
  refine four (p := stamp < es) (q := ew.size = 0) ?aa ?ab ?ba ?bb
  case' aa => intro hst hwz; rw [if_pos hst] at hsv; rw [if_pos hwz] at hwv; have hwt : ew.toList.isEmpty = true := by rw [who_empty]; simpa using hwz
  case' ab => intro hst hwz; rw [if_pos hst] at hsv; rw [if_neg hwz] at hwv; have hwt : ew.toList.isEmpty = false := by rw [who_empty]; simpa using hwz
  case' ba => intro hst hwz; rw [if_neg hst] at hsv; rw [if_pos hwz] at hwv; have hwt : ew.toList.isEmpty = true := by rw [who_empty]; simpa using hwz
  case' bb => intro hst hwz; rw [if_neg hst] at hsv; rw [if_neg hwz] at hwv; have hwt : ew.toList.isEmpty = false := by rw [who_empty]; simpa using hwz
  all_goals
    have Hsv := Lib.hid hsv
    have Hwv := Lib.hid hwv
    clear hsv hwv hwz
    go_enter Try.func26, Try.ntmps26
    go_upto_region 13 with (first | (go_at_call 15; (with_reducible refine (K3.out _ (hr.ext exA)).mono ?_); rintro e w1 ⟨A1, c1, rfl, hx1, ho1⟩; have hG : w.heap.size + 1 + 1 + 1 ≤ w1.heap.size := (by have := hx1.size; simpa using this); have hn0 : ¬ (w.heap.size = w1.heap.size) := (by omega); have hn1 : ¬ (w1.heap.size = w.heap.size) := (by omega); have hn2 : ¬ (w.heap.size + 1 = w1.heap.size) := (by omega); have hn3 : ¬ (w1.heap.size = w.heap.size + 1) := (by omega); have hn4 : ¬ (w.heap.size + 1 + 1 = w1.heap.size) := (by omega); have hn5 : ¬ (w1.heap.size = w.heap.size + 1 + 1) := (by omega); have h3 := HS.out (w1.alloc (.cells #[.int .i64 order, .int .i64 status, .int .i64 prior, .int .i64 cur, .int .i64 tax, .slice A1 n c1, .int .i64 paid, .int .i64 refunded, .int .i64 events, .int .i64 refused, .int .i64 stamp, .string who] 25)) (ExtA hx1); go_split_ands) | (go_at_call 25; (with_reducible refine (KJ.out _ (hr.ext exA)).mono ?_); rintro e w2 ⟨rfl, hx2⟩; have d6 : Blk w2 w1.heap.size 25 #[.int .i64 order, .int .i64 status, .int .i64 prior, .int .i64 cur, .int .i64 tax, .slice A1 n c1, .int .i64 paid, .int .i64 refunded, .int .i64 events, .int .i64 refused, .int .i64 stamp, .string who] := BlkE (BlkN rfl) hx2; have d4 : Blk w2 (w.heap.size + 1 + 1) 25 #[.int .i64 0, .int .i64 0, .int .i64 0, .int .i64 0, .int .i64 0, .slice none 0 0, .int .i64 0, .int .i64 0, .int .i64 0, .int .i64 0, .int .i64 0, .string ⟨#[]⟩] := BlkE (BlkA (BlkE (BlkN (by simp)) hx1)) hx2; have o2 : OwnLs w2 (w.heap.size + 1 + 1 + 1) A1 ls c1 := own_less (OwnLs.mono (OwnA ho1) hx2) (by simp); have HN := Lib.hid (own_apart o2 d6); have HN4 := Lib.hid (own_apart o2 d4); have Ho := Lib.hid o2; have h3 := HS.out w2 (Ext.tr (ExtA hx1) hx2); go_split_ands; (have p0 : World.cell? w2 ⟨w1.heap.size, 0, none⟩ = some (.int .i64 order) := Blk.cell d6 0; have p1 : World.cell? w2 ⟨w1.heap.size, 1, none⟩ = some (.int .i64 status) := Blk.cell d6 1; have p2 : World.cell? w2 ⟨w1.heap.size, 2, none⟩ = some (.int .i64 prior) := Blk.cell d6 2; have p3 : World.cell? w2 ⟨w1.heap.size, 3, none⟩ = some (.int .i64 cur) := Blk.cell d6 3; have p4 : World.cell? w2 ⟨w1.heap.size, 4, none⟩ = some (.int .i64 tax) := Blk.cell d6 4; have p5 : World.cell? w2 ⟨w1.heap.size, 5, none⟩ = some _ := Blk.cell d6 5; have p6 : World.cell? w2 ⟨w1.heap.size, 6, none⟩ = some (.int .i64 paid) := Blk.cell d6 6; have p7 : World.cell? w2 ⟨w1.heap.size, 7, none⟩ = some (.int .i64 refunded) := Blk.cell d6 7; have p8 : World.cell? w2 ⟨w1.heap.size, 8, none⟩ = some (.int .i64 events) := Blk.cell d6 8; have p9 : World.cell? w2 ⟨w1.heap.size, 9, none⟩ = some (.int .i64 refused) := Blk.cell d6 9; have p10 : World.cell? w2 ⟨w1.heap.size, 10, none⟩ = some (.int .i64 stamp) := Blk.cell d6 10; have p11 : World.cell? w2 ⟨w1.heap.size, 11, none⟩ = some (.string who) := Blk.cell d6 11); have y1 := d6.frozen 1; have y2 := d6.frozen 2; have y3 := d6.frozen 3; have y4 := d6.frozen 4; have y5 := d6.frozen 5; have y6 := d6.frozen 6; have y7 := d6.frozen 7; have y8 := d6.frozen 8; have y9 := d6.frozen 9; have y10 := d6.frozen 10; have y11 := d6.frozen 11))
  case' _ =>
    have e6 : Blk (World.setCell (World.setCell w2 ⟨w1.heap.size, 8, none⟩ (.int .i64 (events + 1))) ⟨w1.heap.size, 11, none⟩ (.string ew)) w1.heap.size 25 #[.int .i64 order, .int .i64 status, .int .i64 prior, .int .i64 cur, .int .i64 tax, .slice A1 n c1, .int .i64 paid, .int .i64 refunded, .int .i64 (events + 1), .int .i64 refused, .int .i64 sv, .string wv] := Blk_eq (BlkS (BlkS d6)) (by rw [← Hsv.out, ← Hwv.out]; rfl)
    have e4 : Blk (World.setCell (World.setCell w2 ⟨w1.heap.size, 8, none⟩ (.int .i64 (events + 1))) ⟨w1.heap.size, 11, none⟩ (.string ew)) (w.heap.size + 1 + 1) 25 #[.int .i64 0, .int .i64 0, .int .i64 0, .int .i64 0, .int .i64 0, .slice none 0 0, .int .i64 0, .int .i64 0, .int .i64 0, .int .i64 0, .int .i64 0, .string ⟨#[]⟩] := bkV
    have oz : OwnLs (World.setCell (World.setCell w2 ⟨w1.heap.size, 8, none⟩ (.int .i64 (events + 1))) ⟨w1.heap.size, 11, none⟩ (.string ew)) (w.heap.size + 1 + 1 + 1) A1 ls c1 := (OwnSt HN.out (OwnSt HN.out o2))
    have hXz : Ext (((w.alloc (.cells #[.int .i64 order, .int .i64 status, .int .i64 prior, .int .i64 cur, .int .i64 tax, .slice A n c, .int .i64 paid, .int .i64 refunded, .int .i64 events, .int .i64 refused, .int .i64 stamp, .string who] 25)).alloc (.cells #[.int .i64 ek, .int .i64 eo, .int .i64 ei, .int .i64 eq, .int .i64 ep, .int .i64 ec, .int .i64 et, .string ew, .int .i64 es, .string en] 28)).alloc (.cells #[.int .i64 0, .int .i64 0, .int .i64 0, .int .i64 0, .int .i64 0, .slice none 0 0, .int .i64 0, .int .i64 0, .int .i64 0, .int .i64 0, .int .i64 0, .string ⟨#[]⟩] 25)) (World.setCell (World.setCell w2 ⟨w1.heap.size, 8, none⟩ (.int .i64 (events + 1))) ⟨w1.heap.size, 11, none⟩ (.string ew)) := exA
    have hz3 := HS.out (World.setCell (World.setCell w2 ⟨w1.heap.size, 8, none⟩ (.int .i64 (events + 1))) ⟨w1.heap.size, 11, none⟩ (.string ew)) hXz
    clear p0 p1 p2 p3 p4 p5 p6 p7 p8 p9 p10 p11 y1 y2 y3 y4 y5 y6 y7 y8 y9 y10 y11 d6 d4 o2 Ho ho1
    have hX1 : w.heap.size + 1 + 1 + 1 ≤ w1.heap.size := hG
    generalize (World.setCell (World.setCell w2 ⟨w1.heap.size, 8, none⟩ (.int .i64 (events + 1))) ⟨w1.heap.size, 11, none⟩ (.string ew)) = Wz at *
    generalize w1.heap.size = G at *
    clear hx1 hx2 K3 KJ
  rotate_left 1
  case' _ =>
    have e6 : Blk (World.setCell w2 ⟨w1.heap.size, 8, none⟩ (.int .i64 (events + 1))) w1.heap.size 25 #[.int .i64 order, .int .i64 status, .int .i64 prior, .int .i64 cur, .int .i64 tax, .slice A1 n c1, .int .i64 paid, .int .i64 refunded, .int .i64 (events + 1), .int .i64 refused, .int .i64 sv, .string wv] := Blk_eq (BlkS d6) (by rw [← Hsv.out, ← Hwv.out]; rfl)
    have e4 : Blk (World.setCell w2 ⟨w1.heap.size, 8, none⟩ (.int .i64 (events + 1))) (w.heap.size + 1 + 1) 25 #[.int .i64 0, .int .i64 0, .int .i64 0, .int .i64 0, .int .i64 0, .slice none 0 0, .int .i64 0, .int .i64 0, .int .i64 0, .int .i64 0, .int .i64 0, .string ⟨#[]⟩] := bkV
    have oz : OwnLs (World.setCell w2 ⟨w1.heap.size, 8, none⟩ (.int .i64 (events + 1))) (w.heap.size + 1 + 1 + 1) A1 ls c1 := (OwnSt HN.out o2)
    have hXz : Ext (((w.alloc (.cells #[.int .i64 order, .int .i64 status, .int .i64 prior, .int .i64 cur, .int .i64 tax, .slice A n c, .int .i64 paid, .int .i64 refunded, .int .i64 events, .int .i64 refused, .int .i64 stamp, .string who] 25)).alloc (.cells #[.int .i64 ek, .int .i64 eo, .int .i64 ei, .int .i64 eq, .int .i64 ep, .int .i64 ec, .int .i64 et, .string ew, .int .i64 es, .string en] 28)).alloc (.cells #[.int .i64 0, .int .i64 0, .int .i64 0, .int .i64 0, .int .i64 0, .slice none 0 0, .int .i64 0, .int .i64 0, .int .i64 0, .int .i64 0, .int .i64 0, .string ⟨#[]⟩] 25)) (World.setCell w2 ⟨w1.heap.size, 8, none⟩ (.int .i64 (events + 1))) := exA
    have hz3 := HS.out (World.setCell w2 ⟨w1.heap.size, 8, none⟩ (.int .i64 (events + 1))) hXz
    clear p0 p1 p2 p3 p4 p5 p6 p7 p8 p9 p10 p11 y1 y2 y3 y4 y5 y6 y7 y8 y9 y10 y11 d6 d4 o2 Ho ho1
    have hX1 : w.heap.size + 1 + 1 + 1 ≤ w1.heap.size := hG
    generalize (World.setCell w2 ⟨w1.heap.size, 8, none⟩ (.int .i64 (events + 1))) = Wz at *
    generalize w1.heap.size = G at *
    clear hx1 hx2 K3 KJ
  rotate_left 1
  case' _ =>
    have e6 : Blk (World.setCell (World.setCell (World.setCell w2 ⟨w1.heap.size, 8, none⟩ (.int .i64 (events + 1))) ⟨w1.heap.size, 10, none⟩ (.int .i64 es)) ⟨w1.heap.size, 11, none⟩ (.string ew)) w1.heap.size 25 #[.int .i64 order, .int .i64 status, .int .i64 prior, .int .i64 cur, .int .i64 tax, .slice A1 n c1, .int .i64 paid, .int .i64 refunded, .int .i64 (events + 1), .int .i64 refused, .int .i64 sv, .string wv] := Blk_eq (BlkS (BlkS (BlkS d6))) (by rw [← Hsv.out, ← Hwv.out]; rfl)
    have e4 : Blk (World.setCell (World.setCell (World.setCell w2 ⟨w1.heap.size, 8, none⟩ (.int .i64 (events + 1))) ⟨w1.heap.size, 10, none⟩ (.int .i64 es)) ⟨w1.heap.size, 11, none⟩ (.string ew)) (w.heap.size + 1 + 1) 25 #[.int .i64 0, .int .i64 0, .int .i64 0, .int .i64 0, .int .i64 0, .slice none 0 0, .int .i64 0, .int .i64 0, .int .i64 0, .int .i64 0, .int .i64 0, .string ⟨#[]⟩] := bkV
    have oz : OwnLs (World.setCell (World.setCell (World.setCell w2 ⟨w1.heap.size, 8, none⟩ (.int .i64 (events + 1))) ⟨w1.heap.size, 10, none⟩ (.int .i64 es)) ⟨w1.heap.size, 11, none⟩ (.string ew)) (w.heap.size + 1 + 1 + 1) A1 ls c1 := (OwnSt HN.out (OwnSt HN.out (OwnSt HN.out o2)))
    have hXz : Ext (((w.alloc (.cells #[.int .i64 order, .int .i64 status, .int .i64 prior, .int .i64 cur, .int .i64 tax, .slice A n c, .int .i64 paid, .int .i64 refunded, .int .i64 events, .int .i64 refused, .int .i64 stamp, .string who] 25)).alloc (.cells #[.int .i64 ek, .int .i64 eo, .int .i64 ei, .int .i64 eq, .int .i64 ep, .int .i64 ec, .int .i64 et, .string ew, .int .i64 es, .string en] 28)).alloc (.cells #[.int .i64 0, .int .i64 0, .int .i64 0, .int .i64 0, .int .i64 0, .slice none 0 0, .int .i64 0, .int .i64 0, .int .i64 0, .int .i64 0, .int .i64 0, .string ⟨#[]⟩] 25)) (World.setCell (World.setCell (World.setCell w2 ⟨w1.heap.size, 8, none⟩ (.int .i64 (events + 1))) ⟨w1.heap.size, 10, none⟩ (.int .i64 es)) ⟨w1.heap.size, 11, none⟩ (.string ew)) := exA
    have hz3 := HS.out (World.setCell (World.setCell (World.setCell w2 ⟨w1.heap.size, 8, none⟩ (.int .i64 (events + 1))) ⟨w1.heap.size, 10, none⟩ (.int .i64 es)) ⟨w1.heap.size, 11, none⟩ (.string ew)) hXz
    clear p0 p1 p2 p3 p4 p5 p6 p7 p8 p9 p10 p11 y1 y2 y3 y4 y5 y6 y7 y8 y9 y10 y11 d6 d4 o2 Ho ho1
    have hX1 : w.heap.size + 1 + 1 + 1 ≤ w1.heap.size := hG
    generalize (World.setCell (World.setCell (World.setCell w2 ⟨w1.heap.size, 8, none⟩ (.int .i64 (events + 1))) ⟨w1.heap.size, 10, none⟩ (.int .i64 es)) ⟨w1.heap.size, 11, none⟩ (.string ew)) = Wz at *
    generalize w1.heap.size = G at *
    clear hx1 hx2 K3 KJ
  rotate_left 1
  case' _ =>
    have e6 : Blk (World.setCell (World.setCell w2 ⟨w1.heap.size, 8, none⟩ (.int .i64 (events + 1))) ⟨w1.heap.size, 10, none⟩ (.int .i64 es)) w1.heap.size 25 #[.int .i64 order, .int .i64 status, .int .i64 prior, .int .i64 cur, .int .i64 tax, .slice A1 n c1, .int .i64 paid, .int .i64 refunded, .int .i64 (events + 1), .int .i64 refused, .int .i64 sv, .string wv] := Blk_eq (BlkS (BlkS d6)) (by rw [← Hsv.out, ← Hwv.out]; rfl)
    have e4 : Blk (World.setCell (World.setCell w2 ⟨w1.heap.size, 8, none⟩ (.int .i64 (events + 1))) ⟨w1.heap.size, 10, none⟩ (.int .i64 es)) (w.heap.size + 1 + 1) 25 #[.int .i64 0, .int .i64 0, .int .i64 0, .int .i64 0, .int .i64 0, .slice none 0 0, .int .i64 0, .int .i64 0, .int .i64 0, .int .i64 0, .int .i64 0, .string ⟨#[]⟩] := bkV
    have oz : OwnLs (World.setCell (World.setCell w2 ⟨w1.heap.size, 8, none⟩ (.int .i64 (events + 1))) ⟨w1.heap.size, 10, none⟩ (.int .i64 es)) (w.heap.size + 1 + 1 + 1) A1 ls c1 := (OwnSt HN.out (OwnSt HN.out o2))
    have hXz : Ext (((w.alloc (.cells #[.int .i64 order, .int .i64 status, .int .i64 prior, .int .i64 cur, .int .i64 tax, .slice A n c, .int .i64 paid, .int .i64 refunded, .int .i64 events, .int .i64 refused, .int .i64 stamp, .string who] 25)).alloc (.cells #[.int .i64 ek, .int .i64 eo, .int .i64 ei, .int .i64 eq, .int .i64 ep, .int .i64 ec, .int .i64 et, .string ew, .int .i64 es, .string en] 28)).alloc (.cells #[.int .i64 0, .int .i64 0, .int .i64 0, .int .i64 0, .int .i64 0, .slice none 0 0, .int .i64 0, .int .i64 0, .int .i64 0, .int .i64 0, .int .i64 0, .string ⟨#[]⟩] 25)) (World.setCell (World.setCell w2 ⟨w1.heap.size, 8, none⟩ (.int .i64 (events + 1))) ⟨w1.heap.size, 10, none⟩ (.int .i64 es)) := exA
    have hz3 := HS.out (World.setCell (World.setCell w2 ⟨w1.heap.size, 8, none⟩ (.int .i64 (events + 1))) ⟨w1.heap.size, 10, none⟩ (.int .i64 es)) hXz
    clear p0 p1 p2 p3 p4 p5 p6 p7 p8 p9 p10 p11 y1 y2 y3 y4 y5 y6 y7 y8 y9 y10 y11 d6 d4 o2 Ho ho1
    have hX1 : w.heap.size + 1 + 1 + 1 ≤ w1.heap.size := hG
    generalize (World.setCell (World.setCell w2 ⟨w1.heap.size, 8, none⟩ (.int .i64 (events + 1))) ⟨w1.heap.size, 10, none⟩ (.int .i64 es)) = Wz at *
    generalize w1.heap.size = G at *
    clear hx1 hx2 K3 KJ
  rotate_left 1
  all_goals
    go_split_ands
    have p0 := e6.cell 0
    have p1 := e6.cell 1
    have p2 := e6.cell 2
    have p3 := e6.cell 3
    have p4 := e6.cell 4
    have p5 := e6.cell 5
    have p6 := e6.cell 6
    have p7 := e6.cell 7
    have p8 := e6.cell 8
    have p9 := e6.cell 9
    have p10 := e6.cell 10
    have p11 := e6.cell 11
    have y1 := e6.frozen 1
    have y2 := e6.frozen 2
    have y3 := e6.frozen 3
    have y4 := e6.frozen 4
    have y5 := e6.frozen 5
    have y6 := e6.frozen 6
    have y7 := e6.frozen 7
    have y8 := e6.frozen 8
    have y9 := e6.frozen 9
    have y10 := e6.frozen 10
    have y11 := e6.frozen 11
    have Ho := Lib.hid oz
    have hzz : w.heap.size ≤ Wz.heap.size := by have := hXz.size; simp at this; omega
    clear p0 p1 p2 p3 p4 p5 p6 p7 p8 p9 p10 p11 y1 y2 y3 y4 y5 y6 y7 y8 y9 y10 y11 Ho oz HN HN4
    go_wp2_with (first | (go_at_call 46; (with_reducible refine (KW.out _ (hr.ext exA)).mono ?_); rintro e w5 ⟨A5, c5, rfl, hx5, ho5⟩; have e6 := BlkE e6 hx5; have e4 := BlkE e4 hx5; have HN5 := Lib.hid (own_apart ho5 e6); have HN6 := Lib.hid (own_apart ho5 e4); have p0 := e6.cell 0; have p1 := e6.cell 1; have p2 := e6.cell 2; have p3 := e6.cell 3; have p4 := e6.cell 4; have p5 := e6.cell 5; have p6 := e6.cell 6; have p7 := e6.cell 7; have p8 := e6.cell 8; have p9 := e6.cell 9; have p10 := e6.cell 10; have p11 := e6.cell 11; have y5 := e6.frozen 5) | (with_reducible refine wpL_store_row rfl 25 (.tmp 4) (.tmp 154) rfl _ 25 _ _ rfl rfl (show Blk _ (w.heap.size + 1 + 1) 25 #[.int .i64 0, .int .i64 0, .int .i64 0, .int .i64 0, .int .i64 0, .slice none 0 0, .int .i64 0, .int .i64 0, .int .i64 0, .int .i64 0, .int .i64 0, .string ⟨#[]⟩] from bkV) ((st_size' _ _ _ _ _ _ _ _ _ _ _ _ _ _).trans (st_size' _ _ _ _ _ _ _ _ _ _ _ _ _ _).symm) (st_one' _ _ _ _ _ _ _ _ _ _ _ _ _ _) 12 st_wide (st_size' _ _ _ _ _ _ _ _ _ _ _ _ _ _) ?_))
    refine bodyPost_ret (res_row_t rfl _ _ 25 _ 12 _ rfl rfl (Blk.setRow_ (show Blk _ (w.heap.size + 1 + 1) 25 #[.int .i64 0, .int .i64 0, .int .i64 0, .int .i64 0, .int .i64 0, .slice none 0 0, .int .i64 0, .int .i64 0, .int .i64 0, .int .i64 0, .int .i64 0, .string ⟨#[]⟩] from bkV)) st_wide rfl) rfl ?_
    exact ⟨A5, c5, rfl, exA, own_less (OwnRw HN6.out (OwnSt HN5.out ho5)) (by omega)⟩
end Go.Proofs.Ytlpjhnecihhkfaa
