/-
  The walk of the reference's Apply: what is not refused. (Written by wip/tools/gen_rapply.py.)
-/
import Derived.Test.YtlpjhnecihhkfaaOrdRi
import Derived.Test.YtlpjhnecihhkfaaOrdO
namespace Go.Proofs.Ytlpjhnecihhkfaa
open Go.RowKit
set_option linter.unusedVariables false
set_option linter.unusedSimpArgs false
set_option maxRecDepth 100000 in
set_option maxHeartbeats 8000000 in
theorem rapply_10 (s : St) (e : Ev) (A : Option Addr) (c : Nat) (w : World) (hr : LsRd w A s.lines) (hn : s.lines.length ≤ 4398046510976) (hw1 : s.who.size ≤ 4611686018427387904) (hw2 : e.who.size ≤ 4611686018427387904) (hw3 : e.note.size ≤ 4611686018427387904) (hJ : judge s e = 0) (hk : e.kind = 10) :
    Calls Try.prog 26 #[.agg (stcells s A c), .agg (evcells e)] w (ApPost w (rule (bump s e) e) 0) := by
  have hf := fine_of hJ
  have hv := hf.valid
  have he := hf.event
  have hev := hv.events
  have hqt := he.qty
  have hpr := he.price
  have K3 := Lib.hid fun W (h : LsRd W A s.lines) => scopy_any s A c W h (by omega)
  have KJ := Lib.hid fun W (h : LsRd W A s.lines) => rjudge_any s e A c W h (by omega) hw1 hw2 hw3
  rw [hJ] at KJ
  have hR : rule (bump s e) e = ⟨s.order, 4, s.prior, s.cur, s.tax, clearL s.lines, s.paid, s.refunded, s.events + 1, s.refused, (if s.stamp < e.stamp then e.stamp else s.stamp), (if e.who.size = 0 then s.who else e.who)⟩ := by
    unfold rule
    simp [hk, bump, due]
  rw [hR]
  have hlen9 : s.lines.length ≤ 16 := hv.len
  have hk1 : ∀ j : Int, j ≠ 10 → (e.kind == j) = false := fun j h => by simp; omega
  have hkK : (e.kind == 10) = true := by simp; exact hk
  clear hn hw1 hw2 hw3 hf hJ hR hv he
  obtain ⟨order, status, prior, cur, tax, ls, paid, refunded, events, refused, stamp, who⟩ := s
  obtain ⟨ek, eo, ei, eq, ep, ec, et, ew, es, en⟩ := e
  unfold CopPost at K3
  unfold stcells evcells at *
  unfold ApPost stcells
  dsimp only at *
  have hcl : (clearL ls).length = ls.length := by simp [clearL]
  rw [hcl]
  clear hcl
  have Hnn : Hid (∃ n, n = ls.length) := Lib.hid ⟨_, rfl⟩
  obtain ⟨n, hnn⟩ := Hnn.out
  rw [← hnn] at K3 KJ ⊢
  have Hn := Lib.hid hnn
  clear hnn Hnn
  have HS := Lib.hid (fun w' (h : Ext (((w.alloc (.cells #[.int .i64 order, .int .i64 status, .int .i64 prior, .int .i64 cur, .int .i64 tax, .slice A n c, .int .i64 paid, .int .i64 refunded, .int .i64 events, .int .i64 refused, .int .i64 stamp, .string who] 25)).alloc (.cells #[.int .i64 ek, .int .i64 eo, .int .i64 ei, .int .i64 eq, .int .i64 ep, .int .i64 ec, .int .i64 et, .string ew, .int .i64 es, .string en] 28)).alloc (.cells #[.int .i64 0, .int .i64 0, .int .i64 0, .int .i64 0, .int .i64 0, .slice none 0 0, .int .i64 0, .int .i64 0, .int .i64 0, .int .i64 0, .int .i64 0, .string ⟨#[]⟩] 25)) w') => (⟨h, (Ext.blk h (BlkA (BlkA (BlkN rfl)))).cell 0, (Ext.blk h (BlkA (BlkA (BlkN rfl)))).cell 1, (Ext.blk h (BlkA (BlkA (BlkN rfl)))).cell 2, (Ext.blk h (BlkA (BlkA (BlkN rfl)))).cell 3, (Ext.blk h (BlkA (BlkA (BlkN rfl)))).cell 4, (Ext.blk h (BlkA (BlkA (BlkN rfl)))).cell 5, (Ext.blk h (BlkA (BlkA (BlkN rfl)))).cell 6, (Ext.blk h (BlkA (BlkA (BlkN rfl)))).cell 7, (Ext.blk h (BlkA (BlkA (BlkN rfl)))).cell 8, (Ext.blk h (BlkA (BlkA (BlkN rfl)))).cell 9, (Ext.blk h (BlkA (BlkA (BlkN rfl)))).cell 10, (Ext.blk h (BlkA (BlkA (BlkN rfl)))).cell 11, (Ext.blk h (BlkA (BlkN (by simp)))).cell 0, (Ext.blk h (BlkA (BlkN (by simp)))).cell 1, (Ext.blk h (BlkA (BlkN (by simp)))).cell 2, (Ext.blk h (BlkA (BlkN (by simp)))).cell 3, (Ext.blk h (BlkA (BlkN (by simp)))).cell 4, (Ext.blk h (BlkA (BlkN (by simp)))).cell 5, (Ext.blk h (BlkA (BlkN (by simp)))).cell 6, (Ext.blk h (BlkA (BlkN (by simp)))).cell 7, (Ext.blk h (BlkA (BlkN (by simp)))).cell 8, (Ext.blk h (BlkA (BlkN (by simp)))).cell 9⟩ : (fun w' : World => Ext (((w.alloc (.cells #[.int .i64 order, .int .i64 status, .int .i64 prior, .int .i64 cur, .int .i64 tax, .slice A n c, .int .i64 paid, .int .i64 refunded, .int .i64 events, .int .i64 refused, .int .i64 stamp, .string who] 25)).alloc (.cells #[.int .i64 ek, .int .i64 eo, .int .i64 ei, .int .i64 eq, .int .i64 ep, .int .i64 ec, .int .i64 et, .string ew, .int .i64 es, .string en] 28)).alloc (.cells #[.int .i64 0, .int .i64 0, .int .i64 0, .int .i64 0, .int .i64 0, .slice none 0 0, .int .i64 0, .int .i64 0, .int .i64 0, .int .i64 0, .int .i64 0, .string ⟨#[]⟩] 25)) w' ∧ w'.cell? ⟨w.heap.size, 0, none⟩ = some (.int .i64 order) ∧ w'.cell? ⟨w.heap.size, 1, none⟩ = some (.int .i64 status) ∧ w'.cell? ⟨w.heap.size, 2, none⟩ = some (.int .i64 prior) ∧ w'.cell? ⟨w.heap.size, 3, none⟩ = some (.int .i64 cur) ∧ w'.cell? ⟨w.heap.size, 4, none⟩ = some (.int .i64 tax) ∧ w'.cell? ⟨w.heap.size, 5, none⟩ = some (.slice A n c) ∧ w'.cell? ⟨w.heap.size, 6, none⟩ = some (.int .i64 paid) ∧ w'.cell? ⟨w.heap.size, 7, none⟩ = some (.int .i64 refunded) ∧ w'.cell? ⟨w.heap.size, 8, none⟩ = some (.int .i64 events) ∧ w'.cell? ⟨w.heap.size, 9, none⟩ = some (.int .i64 refused) ∧ w'.cell? ⟨w.heap.size, 10, none⟩ = some (.int .i64 stamp) ∧ w'.cell? ⟨w.heap.size, 11, none⟩ = some (.string who) ∧ w'.cell? ⟨w.heap.size + 1, 0, none⟩ = some (.int .i64 ek) ∧ w'.cell? ⟨w.heap.size + 1, 1, none⟩ = some (.int .i64 eo) ∧ w'.cell? ⟨w.heap.size + 1, 2, none⟩ = some (.int .i64 ei) ∧ w'.cell? ⟨w.heap.size + 1, 3, none⟩ = some (.int .i64 eq) ∧ w'.cell? ⟨w.heap.size + 1, 4, none⟩ = some (.int .i64 ep) ∧ w'.cell? ⟨w.heap.size + 1, 5, none⟩ = some (.int .i64 ec) ∧ w'.cell? ⟨w.heap.size + 1, 6, none⟩ = some (.int .i64 et) ∧ w'.cell? ⟨w.heap.size + 1, 7, none⟩ = some (.string ew) ∧ w'.cell? ⟨w.heap.size + 1, 8, none⟩ = some (.int .i64 es) ∧ w'.cell? ⟨w.heap.size + 1, 9, none⟩ = some (.string en)) w'))
  have hv1 : IntKind.i64.wrap (events + 1) = events + 1 := by rw [IntKind.wrap_i64]; omega
  have k1 : (ek == 1) = false := hk1 1 (by omega)
  have k2 : (ek == 2) = false := hk1 2 (by omega)
  have k3 : (ek == 3) = false := hk1 3 (by omega)
  have k4 : (ek == 4) = false := hk1 4 (by omega)
  have k5 : (ek == 5) = false := hk1 5 (by omega)
  have k6 : (ek == 6) = false := hk1 6 (by omega)
  have k7 : (ek == 7) = false := hk1 7 (by omega)
  have k8 : (ek == 8) = false := hk1 8 (by omega)
  have k9 : (ek == 9) = false := hk1 9 (by omega)
  clear hk1 hk
  generalize hsv : (if stamp < es then es else stamp) = sv
  generalize hwv : (if ew.size = 0 then who else ew) = wv
  refine four (p := stamp < es) (q := ew.size = 0) ?aa ?ab ?ba ?bb
  case' aa => intro hst hwz; rw [if_pos hst] at hsv; rw [if_pos hwz] at hwv; have hwt : ew.toList.isEmpty = true := by rw [who_empty]; simpa using hwz
  case' ab => intro hst hwz; rw [if_pos hst] at hsv; rw [if_neg hwz] at hwv; have hwt : ew.toList.isEmpty = false := by rw [who_empty]; simpa using hwz
  case' ba => intro hst hwz; rw [if_neg hst] at hsv; rw [if_pos hwz] at hwv; have hwt : ew.toList.isEmpty = true := by rw [who_empty]; simpa using hwz
  case' bb => intro hst hwz; rw [if_neg hst] at hsv; rw [if_neg hwz] at hwv; have hwt : ew.toList.isEmpty = false := by rw [who_empty]; simpa using hwz
  all_goals
    have Hsv := Lib.hid hsv
    have Hwv := Lib.hid hwv
    clear hsv hwv hwz
    go_enter Try.func26, Try.ntmps26
    go_upto_region 13 with (first | (go_at_call 15; (with_reducible refine (K3.out _ (hr.ext exA)).mono ?_); rintro e w1 ⟨A1, c1, rfl, hx1, ho1⟩; have hG : w.heap.size + 1 + 1 + 1 ≤ w1.heap.size := (by have := hx1.size; simpa using this); have hn0 : ¬ (w.heap.size = w1.heap.size) := (by omega); have hn1 : ¬ (w1.heap.size = w.heap.size) := (by omega); have hn2 : ¬ (w.heap.size + 1 = w1.heap.size) := (by omega); have hn3 : ¬ (w1.heap.size = w.heap.size + 1) := (by omega); have hn4 : ¬ (w.heap.size + 1 + 1 = w1.heap.size) := (by omega); have hn5 : ¬ (w1.heap.size = w.heap.size + 1 + 1) := (by omega); have h3 := HS.out (w1.alloc (.cells #[.int .i64 order, .int .i64 status, .int .i64 prior, .int .i64 cur, .int .i64 tax, .slice A1 n c1, .int .i64 paid, .int .i64 refunded, .int .i64 events, .int .i64 refused, .int .i64 stamp, .string who] 25)) (ExtA hx1); go_split_ands) | (go_at_call 25; (with_reducible refine (KJ.out _ (hr.ext exA)).mono ?_); rintro e w2 ⟨rfl, hx2⟩; have d6 : Blk w2 w1.heap.size 25 #[.int .i64 order, .int .i64 status, .int .i64 prior, .int .i64 cur, .int .i64 tax, .slice A1 n c1, .int .i64 paid, .int .i64 refunded, .int .i64 events, .int .i64 refused, .int .i64 stamp, .string who] := BlkE (BlkN rfl) hx2; have d4 : Blk w2 (w.heap.size + 1 + 1) 25 #[.int .i64 0, .int .i64 0, .int .i64 0, .int .i64 0, .int .i64 0, .slice none 0 0, .int .i64 0, .int .i64 0, .int .i64 0, .int .i64 0, .int .i64 0, .string ⟨#[]⟩] := BlkE (BlkA (BlkE (BlkN (by simp)) hx1)) hx2; have o2 : OwnLs w2 (w.heap.size + 1 + 1 + 1) A1 ls c1 := own_less (OwnLs.mono (OwnA ho1) hx2) (by simp); have HN := Lib.hid (own_apart o2 d6); have HN4 := Lib.hid (own_apart o2 d4); have Ho := Lib.hid o2; have h3 := HS.out w2 (Ext.tr (ExtA hx1) hx2); go_split_ands; (have p0 : World.cell? w2 ⟨w1.heap.size, 0, none⟩ = some (.int .i64 order) := Blk.cell d6 0; have p1 : World.cell? w2 ⟨w1.heap.size, 1, none⟩ = some (.int .i64 status) := Blk.cell d6 1; have p2 : World.cell? w2 ⟨w1.heap.size, 2, none⟩ = some (.int .i64 prior) := Blk.cell d6 2; have p3 : World.cell? w2 ⟨w1.heap.size, 3, none⟩ = some (.int .i64 cur) := Blk.cell d6 3; have p4 : World.cell? w2 ⟨w1.heap.size, 4, none⟩ = some (.int .i64 tax) := Blk.cell d6 4; have p5 : World.cell? w2 ⟨w1.heap.size, 5, none⟩ = some _ := Blk.cell d6 5; have p6 : World.cell? w2 ⟨w1.heap.size, 6, none⟩ = some (.int .i64 paid) := Blk.cell d6 6; have p7 : World.cell? w2 ⟨w1.heap.size, 7, none⟩ = some (.int .i64 refunded) := Blk.cell d6 7; have p8 : World.cell? w2 ⟨w1.heap.size, 8, none⟩ = some (.int .i64 events) := Blk.cell d6 8; have p9 : World.cell? w2 ⟨w1.heap.size, 9, none⟩ = some (.int .i64 refused) := Blk.cell d6 9; have p10 : World.cell? w2 ⟨w1.heap.size, 10, none⟩ = some (.int .i64 stamp) := Blk.cell d6 10; have p11 : World.cell? w2 ⟨w1.heap.size, 11, none⟩ = some (.string who) := Blk.cell d6 11); have y1 := d6.frozen 1; have y2 := d6.frozen 2; have y3 := d6.frozen 3; have y4 := d6.frozen 4; have y5 := d6.frozen 5; have y6 := d6.frozen 6; have y7 := d6.frozen 7; have y8 := d6.frozen 8; have y9 := d6.frozen 9; have y10 := d6.frozen 10; have y11 := d6.frozen 11))
  case' _ =>
    have e6 : Blk (World.setCell (World.setCell w2 ⟨w1.heap.size, 8, none⟩ (.int .i64 (events + 1))) ⟨w1.heap.size, 11, none⟩ (.string ew)) w1.heap.size 25 #[.int .i64 order, .int .i64 status, .int .i64 prior, .int .i64 cur, .int .i64 tax, .slice A1 n c1, .int .i64 paid, .int .i64 refunded, .int .i64 (events + 1), .int .i64 refused, .int .i64 sv, .string wv] := Blk_eq (BlkS (BlkS d6)) (by rw [← Hsv.out, ← Hwv.out]; rfl)
    have e4 : Blk (World.setCell (World.setCell w2 ⟨w1.heap.size, 8, none⟩ (.int .i64 (events + 1))) ⟨w1.heap.size, 11, none⟩ (.string ew)) (w.heap.size + 1 + 1) 25 #[.int .i64 0, .int .i64 0, .int .i64 0, .int .i64 0, .int .i64 0, .slice none 0 0, .int .i64 0, .int .i64 0, .int .i64 0, .int .i64 0, .int .i64 0, .string ⟨#[]⟩] := bkV
    have oz : OwnLs (World.setCell (World.setCell w2 ⟨w1.heap.size, 8, none⟩ (.int .i64 (events + 1))) ⟨w1.heap.size, 11, none⟩ (.string ew)) (w.heap.size + 1 + 1 + 1) A1 ls c1 := (OwnSt HN.out (OwnSt HN.out o2))
    have hXz : Ext (((w.alloc (.cells #[.int .i64 order, .int .i64 status, .int .i64 prior, .int .i64 cur, .int .i64 tax, .slice A n c, .int .i64 paid, .int .i64 refunded, .int .i64 events, .int .i64 refused, .int .i64 stamp, .string who] 25)).alloc (.cells #[.int .i64 ek, .int .i64 eo, .int .i64 ei, .int .i64 eq, .int .i64 ep, .int .i64 ec, .int .i64 et, .string ew, .int .i64 es, .string en] 28)).alloc (.cells #[.int .i64 0, .int .i64 0, .int .i64 0, .int .i64 0, .int .i64 0, .slice none 0 0, .int .i64 0, .int .i64 0, .int .i64 0, .int .i64 0, .int .i64 0, .string ⟨#[]⟩] 25)) (World.setCell (World.setCell w2 ⟨w1.heap.size, 8, none⟩ (.int .i64 (events + 1))) ⟨w1.heap.size, 11, none⟩ (.string ew)) := exA
    have hz3 := HS.out (World.setCell (World.setCell w2 ⟨w1.heap.size, 8, none⟩ (.int .i64 (events + 1))) ⟨w1.heap.size, 11, none⟩ (.string ew)) hXz
    clear p0 p1 p2 p3 p4 p5 p6 p7 p8 p9 p10 p11 y1 y2 y3 y4 y5 y6 y7 y8 y9 y10 y11 d6 d4 o2 Ho ho1
    have hX1 : w.heap.size + 1 + 1 + 1 ≤ w1.heap.size := hG
    generalize (World.setCell (World.setCell w2 ⟨w1.heap.size, 8, none⟩ (.int .i64 (events + 1))) ⟨w1.heap.size, 11, none⟩ (.string ew)) = Wz at *
    generalize w1.heap.size = G at *
    clear hx1 hx2 K3 KJ
  rotate_left 1
  case' _ =>
    have e6 : Blk (World.setCell w2 ⟨w1.heap.size, 8, none⟩ (.int .i64 (events + 1))) w1.heap.size 25 #[.int .i64 order, .int .i64 status, .int .i64 prior, .int .i64 cur, .int .i64 tax, .slice A1 n c1, .int .i64 paid, .int .i64 refunded, .int .i64 (events + 1), .int .i64 refused, .int .i64 sv, .string wv] := Blk_eq (BlkS d6) (by rw [← Hsv.out, ← Hwv.out]; rfl)
    have e4 : Blk (World.setCell w2 ⟨w1.heap.size, 8, none⟩ (.int .i64 (events + 1))) (w.heap.size + 1 + 1) 25 #[.int .i64 0, .int .i64 0, .int .i64 0, .int .i64 0, .int .i64 0, .slice none 0 0, .int .i64 0, .int .i64 0, .int .i64 0, .int .i64 0, .int .i64 0, .string ⟨#[]⟩] := bkV
    have oz : OwnLs (World.setCell w2 ⟨w1.heap.size, 8, none⟩ (.int .i64 (events + 1))) (w.heap.size + 1 + 1 + 1) A1 ls c1 := (OwnSt HN.out o2)
    have hXz : Ext (((w.alloc (.cells #[.int .i64 order, .int .i64 status, .int .i64 prior, .int .i64 cur, .int .i64 tax, .slice A n c, .int .i64 paid, .int .i64 refunded, .int .i64 events, .int .i64 refused, .int .i64 stamp, .string who] 25)).alloc (.cells #[.int .i64 ek, .int .i64 eo, .int .i64 ei, .int .i64 eq, .int .i64 ep, .int .i64 ec, .int .i64 et, .string ew, .int .i64 es, .string en] 28)).alloc (.cells #[.int .i64 0, .int .i64 0, .int .i64 0, .int .i64 0, .int .i64 0, .slice none 0 0, .int .i64 0, .int .i64 0, .int .i64 0, .int .i64 0, .int .i64 0, .string ⟨#[]⟩] 25)) (World.setCell w2 ⟨w1.heap.size, 8, none⟩ (.int .i64 (events + 1))) := exA
    have hz3 := HS.out (World.setCell w2 ⟨w1.heap.size, 8, none⟩ (.int .i64 (events + 1))) hXz
    clear p0 p1 p2 p3 p4 p5 p6 p7 p8 p9 p10 p11 y1 y2 y3 y4 y5 y6 y7 y8 y9 y10 y11 d6 d4 o2 Ho ho1
    have hX1 : w.heap.size + 1 + 1 + 1 ≤ w1.heap.size := hG
    generalize (World.setCell w2 ⟨w1.heap.size, 8, none⟩ (.int .i64 (events + 1))) = Wz at *
    generalize w1.heap.size = G at *
    clear hx1 hx2 K3 KJ
  rotate_left 1
  case' _ =>
    have e6 : Blk (World.setCell (World.setCell (World.setCell w2 ⟨w1.heap.size, 8, none⟩ (.int .i64 (events + 1))) ⟨w1.heap.size, 10, none⟩ (.int .i64 es)) ⟨w1.heap.size, 11, none⟩ (.string ew)) w1.heap.size 25 #[.int .i64 order, .int .i64 status, .int .i64 prior, .int .i64 cur, .int .i64 tax, .slice A1 n c1, .int .i64 paid, .int .i64 refunded, .int .i64 (events + 1), .int .i64 refused, .int .i64 sv, .string wv] := Blk_eq (BlkS (BlkS (BlkS d6))) (by rw [← Hsv.out, ← Hwv.out]; rfl)
    have e4 : Blk (World.setCell (World.setCell (World.setCell w2 ⟨w1.heap.size, 8, none⟩ (.int .i64 (events + 1))) ⟨w1.heap.size, 10, none⟩ (.int .i64 es)) ⟨w1.heap.size, 11, none⟩ (.string ew)) (w.heap.size + 1 + 1) 25 #[.int .i64 0, .int .i64 0, .int .i64 0, .int .i64 0, .int .i64 0, .slice none 0 0, .int .i64 0, .int .i64 0, .int .i64 0, .int .i64 0, .int .i64 0, .string ⟨#[]⟩] := bkV
    have oz : OwnLs (World.setCell (World.setCell (World.setCell w2 ⟨w1.heap.size, 8, none⟩ (.int .i64 (events + 1))) ⟨w1.heap.size, 10, none⟩ (.int .i64 es)) ⟨w1.heap.size, 11, none⟩ (.string ew)) (w.heap.size + 1 + 1 + 1) A1 ls c1 := (OwnSt HN.out (OwnSt HN.out (OwnSt HN.out o2)))
    have hXz : Ext (((w.alloc (.cells #[.int .i64 order, .int .i64 status, .int .i64 prior, .int .i64 cur, .int .i64 tax, .slice A n c, .int .i64 paid, .int .i64 refunded, .int .i64 events, .int .i64 refused, .int .i64 stamp, .string who] 25)).alloc (.cells #[.int .i64 ek, .int .i64 eo, .int .i64 ei, .int .i64 eq, .int .i64 ep, .int .i64 ec, .int .i64 et, .string ew, .int .i64 es, .string en] 28)).alloc (.cells #[.int .i64 0, .int .i64 0, .int .i64 0, .int .i64 0, .int .i64 0, .slice none 0 0, .int .i64 0, .int .i64 0, .int .i64 0, .int .i64 0, .int .i64 0, .string ⟨#[]⟩] 25)) (World.setCell (World.setCell (World.setCell w2 ⟨w1.heap.size, 8, none⟩ (.int .i64 (events + 1))) ⟨w1.heap.size, 10, none⟩ (.int .i64 es)) ⟨w1.heap.size, 11, none⟩ (.string ew)) := exA
    have hz3 := HS.out (World.setCell (World.setCell (World.setCell w2 ⟨w1.heap.size, 8, none⟩ (.int .i64 (events + 1))) ⟨w1.heap.size, 10, none⟩ (.int .i64 es)) ⟨w1.heap.size, 11, none⟩ (.string ew)) hXz
    clear p0 p1 p2 p3 p4 p5 p6 p7 p8 p9 p10 p11 y1 y2 y3 y4 y5 y6 y7 y8 y9 y10 y11 d6 d4 o2 Ho ho1
    have hX1 : w.heap.size + 1 + 1 + 1 ≤ w1.heap.size := hG
    generalize (World.setCell (World.setCell (World.setCell w2 ⟨w1.heap.size, 8, none⟩ (.int .i64 (events + 1))) ⟨w1.heap.size, 10, none⟩ (.int .i64 es)) ⟨w1.heap.size, 11, none⟩ (.string ew)) = Wz at *
    generalize w1.heap.size = G at *
    clear hx1 hx2 K3 KJ
  rotate_left 1
  case' _ =>
    have e6 : Blk (World.setCell (World.setCell w2 ⟨w1.heap.size, 8, none⟩ (.int .i64 (events + 1))) ⟨w1.heap.size, 10, none⟩ (.int .i64 es)) w1.heap.size 25 #[.int .i64 order, .int .i64 status, .int .i64 prior, .int .i64 cur, .int .i64 tax, .slice A1 n c1, .int .i64 paid, .int .i64 refunded, .int .i64 (events + 1), .int .i64 refused, .int .i64 sv, .string wv] := Blk_eq (BlkS (BlkS d6)) (by rw [← Hsv.out, ← Hwv.out]; rfl)
    have e4 : Blk (World.setCell (World.setCell w2 ⟨w1.heap.size, 8, none⟩ (.int .i64 (events + 1))) ⟨w1.heap.size, 10, none⟩ (.int .i64 es)) (w.heap.size + 1 + 1) 25 #[.int .i64 0, .int .i64 0, .int .i64 0, .int .i64 0, .int .i64 0, .slice none 0 0, .int .i64 0, .int .i64 0, .int .i64 0, .int .i64 0, .int .i64 0, .string ⟨#[]⟩] := bkV
    have oz : OwnLs (World.setCell (World.setCell w2 ⟨w1.heap.size, 8, none⟩ (.int .i64 (events + 1))) ⟨w1.heap.size, 10, none⟩ (.int .i64 es)) (w.heap.size + 1 + 1 + 1) A1 ls c1 := (OwnSt HN.out (OwnSt HN.out o2))
    have hXz : Ext (((w.alloc (.cells #[.int .i64 order, .int .i64 status, .int .i64 prior, .int .i64 cur, .int .i64 tax, .slice A n c, .int .i64 paid, .int .i64 refunded, .int .i64 events, .int .i64 refused, .int .i64 stamp, .string who] 25)).alloc (.cells #[.int .i64 ek, .int .i64 eo, .int .i64 ei, .int .i64 eq, .int .i64 ep, .int .i64 ec, .int .i64 et, .string ew, .int .i64 es, .string en] 28)).alloc (.cells #[.int .i64 0, .int .i64 0, .int .i64 0, .int .i64 0, .int .i64 0, .slice none 0 0, .int .i64 0, .int .i64 0, .int .i64 0, .int .i64 0, .int .i64 0, .string ⟨#[]⟩] 25)) (World.setCell (World.setCell w2 ⟨w1.heap.size, 8, none⟩ (.int .i64 (events + 1))) ⟨w1.heap.size, 10, none⟩ (.int .i64 es)) := exA
    have hz3 := HS.out (World.setCell (World.setCell w2 ⟨w1.heap.size, 8, none⟩ (.int .i64 (events + 1))) ⟨w1.heap.size, 10, none⟩ (.int .i64 es)) hXz
    clear p0 p1 p2 p3 p4 p5 p6 p7 p8 p9 p10 p11 y1 y2 y3 y4 y5 y6 y7 y8 y9 y10 y11 d6 d4 o2 Ho ho1
    have hX1 : w.heap.size + 1 + 1 + 1 ≤ w1.heap.size := hG
    generalize (World.setCell (World.setCell w2 ⟨w1.heap.size, 8, none⟩ (.int .i64 (events + 1))) ⟨w1.heap.size, 10, none⟩ (.int .i64 es)) = Wz at *
    generalize w1.heap.size = G at *
    clear hx1 hx2 K3 KJ
  rotate_left 1
  all_goals
    go_split_ands
    have p0 := e6.cell 0
    have p1 := e6.cell 1
    have p2 := e6.cell 2
    have p3 := e6.cell 3
    have p4 := e6.cell 4
    have p5 := e6.cell 5
    have p6 := e6.cell 6
    have p7 := e6.cell 7
    have p8 := e6.cell 8
    have p9 := e6.cell 9
    have p10 := e6.cell 10
    have p11 := e6.cell 11
    have y1 := e6.frozen 1
    have y2 := e6.frozen 2
    have y3 := e6.frozen 3
    have y4 := e6.frozen 4
    have y5 := e6.frozen 5
    have y6 := e6.frozen 6
    have y7 := e6.frozen 7
    have y8 := e6.frozen 8
    have y9 := e6.frozen 9
    have y10 := e6.frozen 10
    have y11 := e6.frozen 11
    have Ho := Lib.hid oz
    have hWs : (((w.alloc (.cells #[.int .i64 order, .int .i64 status, .int .i64 prior, .int .i64 cur, .int .i64 tax, .slice A n c, .int .i64 paid, .int .i64 refunded, .int .i64 events, .int .i64 refused, .int .i64 stamp, .string who] 25)).alloc (.cells #[.int .i64 ek, .int .i64 eo, .int .i64 ei, .int .i64 eq, .int .i64 ep, .int .i64 ec, .int .i64 et, .string ew, .int .i64 es, .string en] 28)).alloc (.cells #[.int .i64 0, .int .i64 0, .int .i64 0, .int .i64 0, .int .i64 0, .slice none 0 0, .int .i64 0, .int .i64 0, .int .i64 0, .int .i64 0, .int .i64 0, .string ⟨#[]⟩] 25)).heap.size = w.heap.size + 1 + 1 + 1 := by simp
    have hln9 : n ≤ 4611686018427387904 := by have := Hn.out; omega
    go_wp2_with fail
    go_loopw [114] (fun c10 wr => ClR (((w.alloc (.cells #[.int .i64 order, .int .i64 status, .int .i64 prior, .int .i64 cur, .int .i64 tax, .slice A n c, .int .i64 paid, .int .i64 refunded, .int .i64 events, .int .i64 refused, .int .i64 stamp, .string who] 25)).alloc (.cells #[.int .i64 ek, .int .i64 eo, .int .i64 ei, .int .i64 eq, .int .i64 ep, .int .i64 ec, .int .i64 et, .string ew, .int .i64 es, .string en] 28)).alloc (.cells #[.int .i64 0, .int .i64 0, .int .i64 0, .int .i64 0, .int .i64 0, .slice none 0 0, .int .i64 0, .int .i64 0, .int .i64 0, .int .i64 0, .int .i64 0, .string ⟨#[]⟩] 25)) G c1 A1 #[.int .i64 order, .int .i64 status, .int .i64 prior, .int .i64 cur, .int .i64 tax, .slice A1 n c1, .int .i64 paid, .int .i64 refunded, .int .i64 (events + 1), .int .i64 refused, .int .i64 sv, .string wv] ls c10 wr) (fun c10 _ => n - (intOf c10).toNat)
    case atStart => exact ⟨0, rfl, by omega, hXz, e6, by rw [List.take_zero, List.drop_zero, hWs]; exact oz⟩
    case round =>
      obtain ⟨k, rfl, hk, hxr, hbr, hor⟩ := hrel
      rw [← Hn.out] at hk
      by_cases hlt : k < n
      · obtain ⟨hk2, hgt, hst2⟩ := clear_step (ls := ls) (k := k) (by rw [← Hn.out]; exact hlt)
        obtain ⟨lb, _, rfl, hlbw, _⟩ := own_blk hor (by omega)
        rw [hWs] at hlbw
        have hglb : G ≠ lb := fun h => HN.out 0 0 (by rw [h]; rfl)
        have hLn := own_at hor hk2
        rw [hgt] at hLn
        have HSet := Lib.hid (own_set (f := 3) (v := .int .i64 (ls[k]'(by rw [← Hn.out]; exact hlt)).qty) (l := ⟨(ls[k]'(by rw [← Hn.out]; exact hlt)).item, (ls[k]'(by rw [← Hn.out]; exact hlt)).price, (ls[k]'(by rw [← Hn.out]; exact hlt)).qty, (ls[k]'(by rw [← Hn.out]; exact hlt)).qty⟩) hor hk2 (by omega) (by rw [hgt]; rfl))
        rw [hst2] at HSet
        have e2' := hLn 2 _ rfl
        have e3' := hLn 3 _ rfl
        have f3' := own_frozen_ hor (k * 4 + 3)
        clear hLn hst2 hgt hk2
        generalize (ls[k]'(by rw [← Hn.out]; exact hlt)) = l at *
        obtain ⟨li, lp, lq, lsh⟩ := l
        dsimp only at *
        have a5' : wr.cell? ⟨G, 5, none⟩ = some (.slice (some ⟨lb, 0, none⟩) n c1) := hbr.cell 5
        have Hor := Lib.hid hor
        have Hbr := Lib.hid hbr
        have hsz3 : (((w.alloc (.cells #[.int .i64 order, .int .i64 status, .int .i64 prior, .int .i64 cur, .int .i64 tax, .slice A n c, .int .i64 paid, .int .i64 refunded, .int .i64 events, .int .i64 refused, .int .i64 stamp, .string who] 25)).alloc (.cells #[.int .i64 ek, .int .i64 eo, .int .i64 ei, .int .i64 eq, .int .i64 ep, .int .i64 ec, .int .i64 et, .string ew, .int .i64 es, .string en] 28)).alloc (.cells #[.int .i64 0, .int .i64 0, .int .i64 0, .int .i64 0, .int .i64 0, .slice none 0 0, .int .i64 0, .int .i64 0, .int .i64 0, .int .i64 0, .int .i64 0, .string ⟨#[]⟩] 25)).heap.size ≤ lb := by rw [hWs]; exact hlbw
        clear hor
        go_wp2_with fail
        all_goals try go_region
        all_goals (go_wp2_with fail)
        refine And.intro ?_ ?_
        · exact ⟨k + 1, by go_num, by have := Hn.out; omega, exA, by exact BlkF hglb (BlkD Hbr.out), HSet.out⟩
        · simp [intOf]; omega
      · obtain rfl : k = n := by omega
        have htk : ls.take k = ls := List.take_of_length_le (by have := Hn.out; omega)
        have hdk : ls.drop k = [] := List.drop_eq_nil_of_le (by have := Hn.out; omega)
        rw [htk, hdk, List.append_nil, hWs] at hor
        have e4' : Blk wr (w.heap.size + 1 + 1) 25 #[.int .i64 0, .int .i64 0, .int .i64 0, .int .i64 0, .int .i64 0, .slice none 0 0, .int .i64 0, .int .i64 0, .int .i64 0, .int .i64 0, .int .i64 0, .string ⟨#[]⟩] := Ext.blk hxr (BlkN (by simp))
        have hcl : (clearL ls).length = k := by rw [show (clearL ls).length = ls.length by simp [clearL]]; exact Hn.out.symm
        have HNr := Lib.hid (own_apart hor hbr)
        have HNr4 := Lib.hid (own_apart hor e4')
        have r0 := hbr.cell 0
        have r1 := hbr.cell 1
        have r2 := hbr.cell 2
        have r3 := hbr.cell 3
        have r4 := hbr.cell 4
        have r5 := hbr.cell 5
        have r6 := hbr.cell 6
        have r7 := hbr.cell 7
        have r8 := hbr.cell 8
        have r9 := hbr.cell 9
        have r10 := hbr.cell 10
        have r11 := hbr.cell 11
        have y1' := hbr.frozen 1
        go_wp2_with (with_reducible refine wpL_store_row rfl 25 (.tmp 4) (.tmp 154) rfl _ 25 _ _ rfl rfl (show Blk _ (w.heap.size + 1 + 1) 25 #[.int .i64 0, .int .i64 0, .int .i64 0, .int .i64 0, .int .i64 0, .slice none 0 0, .int .i64 0, .int .i64 0, .int .i64 0, .int .i64 0, .int .i64 0, .string ⟨#[]⟩] from bkV) ((st_size' _ _ _ _ _ _ _ _ _ _ _ _ _ _).trans (st_size' _ _ _ _ _ _ _ _ _ _ _ _ _ _).symm) (st_one' _ _ _ _ _ _ _ _ _ _ _ _ _ _) 12 st_wide (st_size' _ _ _ _ _ _ _ _ _ _ _ _ _ _) ?_)
        refine bodyPost_ret (res_row_t rfl _ _ 25 _ 12 _ rfl rfl (Blk.setRow_ (show Blk _ (w.heap.size + 1 + 1) 25 #[.int .i64 0, .int .i64 0, .int .i64 0, .int .i64 0, .int .i64 0, .slice none 0 0, .int .i64 0, .int .i64 0, .int .i64 0, .int .i64 0, .int .i64 0, .string ⟨#[]⟩] from bkV)) st_wide rfl) rfl ?_
        exact ⟨A1, c1, rfl, exA, own_less (OwnRw HNr4.out (OwnSt HNr.out hor)) (by omega)⟩
set_option maxRecDepth 100000 in
set_option maxHeartbeats 8000000 in
theorem rapply_4 (s : St) (e : Ev) (A : Option Addr) (c : Nat) (w : World) (hr : LsRd w A s.lines) (hn : s.lines.length ≤ 4398046510976) (hw1 : s.who.size ≤ 4611686018427387904) (hw2 : e.who.size ≤ 4611686018427387904) (hw3 : e.note.size ≤ 4611686018427387904) (hJ : judge s e = 0) (hk : e.kind = 4) :
    Calls Try.prog 26 #[.agg (stcells s A c), .agg (evcells e)] w (ApPost w (rule (bump s e) e) 0) := by
  have hf := fine_of hJ
  have hv := hf.valid
  have he := hf.event
  have hev := hv.events
  have hqt := he.qty
  have hpr := he.price
  have K3 := Lib.hid fun W (h : LsRd W A s.lines) => scopy_any s A c W h (by omega)
  have KJ := Lib.hid fun W (h : LsRd W A s.lines) => rjudge_any s e A c W h (by omega) hw1 hw2 hw3
  rw [hJ] at KJ
  have hR : rule (bump s e) e = ⟨s.order, if allB (shipL e.item e.qty s.lines) = true then 4 else s.status, s.prior, s.cur, s.tax, shipL e.item e.qty s.lines, s.paid, s.refunded, s.events + 1, s.refused, (if s.stamp < e.stamp then e.stamp else s.stamp), (if e.who.size = 0 then s.who else e.who)⟩ := by
    unfold rule
    rw [if_neg (by omega), if_neg (by omega), if_neg (by omega), if_neg (by omega), if_pos hk]; rfl
  rw [hR]
  obtain ⟨l, hl⟩ := hf.there (.inr hk)
  obtain ⟨ht, hg2⟩ := there_line hv.rises hl
  have hsh := hf.ship hk l hl
  have huq := (lineOf_some hl hv.rises).2.2
  obtain ⟨hP, hPi⟩ := pos_there hv.rises ht
  have hM := ship_there (q := e.qty) hv.rises ht hP
  have hlk := (lnB_iff.1 (rises_mem hv.rises _ (List.getElem_mem hP)).1).2.2
  have hgl := hg2 hP
  rw [hgl] at hlk hM
  have hsr := (ship_rises (item := e.item) (q := e.qty) hv.rises (fun x hx hxi => by rw [huq x hx hxi]; omega)).1
  have hML : (shipL e.item e.qty s.lines).length = s.lines.length := by rw [hM, List.length_set]
  have KA : Hid (∀ W, LsRd W A s.lines → Calls Try.prog 45 #[.agg (stcells s A c), .int .i64 e.item] W fun e' w' => e' = .returned (.int .i64 (posOf e.item s.lines : Nat)) ∧ Ext W w') := Lib.hid fun W h => by
    have := rat_any s e.item A c W h hv.rises (by have := hv.len; omega)
    rwa [atI_yes ht] at this
  have hLn := fun w' base lb c1 (h : OwnLs w' base (some ⟨lb, 0, none⟩) s.lines c1) => own_at h hP
  rw [hgl] at hLn
  have HLn := Lib.hid hLn
  have hSet := fun w' base lb c1 (h : OwnLs w' base (some ⟨lb, 0, none⟩) s.lines c1) => own_set (f := 3) (v := .int .i64 (l.shipped + e.qty)) (l := ⟨l.item, l.price, l.qty, l.shipped + e.qty⟩) h hP (by omega) (by rw [hgl]; rfl)
  rw [← hM] at hSet
  have HSet := Lib.hid hSet
  have KWh := Lib.hid fun st2 wh2 A' c' W (h : LsRd W A' (shipL e.item e.qty s.lines)) => whole_any ⟨s.order, s.status, s.prior, s.cur, s.tax, shipL e.item e.qty s.lines, s.paid, s.refunded, s.events + 1, s.refused, st2, wh2⟩ A' c' W h (fun x hx => (lnB_iff.1 (rises_mem hsr x hx).1).2.2.2.2) (by show (shipL e.item e.qty s.lines).length ≤ _; rw [hML]; have := hv.len; omega)
  have hw4 : IntKind.i64.wrap (l.shipped + e.qty) = l.shipped + e.qty := by rw [IntKind.wrap_i64]; omega
  clear hLn hSet hl ht hg2 hsh huq hPi hM hlk hgl hsr
  generalize shipL e.item e.qty s.lines = T at *
  generalize posOf e.item s.lines = P at *
  obtain ⟨li, lp, lq, lsh⟩ := l
  have hlen9 : s.lines.length ≤ 16 := hv.len
  have hk1 : ∀ j : Int, j ≠ 4 → (e.kind == j) = false := fun j h => by simp; omega
  have hkK : (e.kind == 4) = true := by simp; exact hk
  clear hn hw1 hw2 hw3 hf hJ hR hv he
  obtain ⟨order, status, prior, cur, tax, ls, paid, refunded, events, refused, stamp, who⟩ := s
  obtain ⟨ek, eo, ei, eq, ep, ec, et, ew, es, en⟩ := e
  unfold CopPost at K3
  unfold stcells evcells at *
  unfold ApPost stcells
  dsimp only at *
  rw [hML] at KWh ⊢
  clear hML
  generalize allB T = BT at *
  have Hnn : Hid (∃ n, n = ls.length) := Lib.hid ⟨_, rfl⟩
  obtain ⟨n, hnn⟩ := Hnn.out
  rw [← hnn] at K3 KJ KA hP KWh ⊢
  have Hn := Lib.hid hnn
  clear hnn Hnn
  have HS := Lib.hid (fun w' (h : Ext (((w.alloc (.cells #[.int .i64 order, .int .i64 status, .int .i64 prior, .int .i64 cur, .int .i64 tax, .slice A n c, .int .i64 paid, .int .i64 refunded, .int .i64 events, .int .i64 refused, .int .i64 stamp, .string who] 25)).alloc (.cells #[.int .i64 ek, .int .i64 eo, .int .i64 ei, .int .i64 eq, .int .i64 ep, .int .i64 ec, .int .i64 et, .string ew, .int .i64 es, .string en] 28)).alloc (.cells #[.int .i64 0, .int .i64 0, .int .i64 0, .int .i64 0, .int .i64 0, .slice none 0 0, .int .i64 0, .int .i64 0, .int .i64 0, .int .i64 0, .int .i64 0, .string ⟨#[]⟩] 25)) w') => (⟨h, (Ext.blk h (BlkA (BlkA (BlkN rfl)))).cell 0, (Ext.blk h (BlkA (BlkA (BlkN rfl)))).cell 1, (Ext.blk h (BlkA (BlkA (BlkN rfl)))).cell 2, (Ext.blk h (BlkA (BlkA (BlkN rfl)))).cell 3, (Ext.blk h (BlkA (BlkA (BlkN rfl)))).cell 4, (Ext.blk h (BlkA (BlkA (BlkN rfl)))).cell 5, (Ext.blk h (BlkA (BlkA (BlkN rfl)))).cell 6, (Ext.blk h (BlkA (BlkA (BlkN rfl)))).cell 7, (Ext.blk h (BlkA (BlkA (BlkN rfl)))).cell 8, (Ext.blk h (BlkA (BlkA (BlkN rfl)))).cell 9, (Ext.blk h (BlkA (BlkA (BlkN rfl)))).cell 10, (Ext.blk h (BlkA (BlkA (BlkN rfl)))).cell 11, (Ext.blk h (BlkA (BlkN (by simp)))).cell 0, (Ext.blk h (BlkA (BlkN (by simp)))).cell 1, (Ext.blk h (BlkA (BlkN (by simp)))).cell 2, (Ext.blk h (BlkA (BlkN (by simp)))).cell 3, (Ext.blk h (BlkA (BlkN (by simp)))).cell 4, (Ext.blk h (BlkA (BlkN (by simp)))).cell 5, (Ext.blk h (BlkA (BlkN (by simp)))).cell 6, (Ext.blk h (BlkA (BlkN (by simp)))).cell 7, (Ext.blk h (BlkA (BlkN (by simp)))).cell 8, (Ext.blk h (BlkA (BlkN (by simp)))).cell 9⟩ : (fun w' : World => Ext (((w.alloc (.cells #[.int .i64 order, .int .i64 status, .int .i64 prior, .int .i64 cur, .int .i64 tax, .slice A n c, .int .i64 paid, .int .i64 refunded, .int .i64 events, .int .i64 refused, .int .i64 stamp, .string who] 25)).alloc (.cells #[.int .i64 ek, .int .i64 eo, .int .i64 ei, .int .i64 eq, .int .i64 ep, .int .i64 ec, .int .i64 et, .string ew, .int .i64 es, .string en] 28)).alloc (.cells #[.int .i64 0, .int .i64 0, .int .i64 0, .int .i64 0, .int .i64 0, .slice none 0 0, .int .i64 0, .int .i64 0, .int .i64 0, .int .i64 0, .int .i64 0, .string ⟨#[]⟩] 25)) w' ∧ w'.cell? ⟨w.heap.size, 0, none⟩ = some (.int .i64 order) ∧ w'.cell? ⟨w.heap.size, 1, none⟩ = some (.int .i64 status) ∧ w'.cell? ⟨w.heap.size, 2, none⟩ = some (.int .i64 prior) ∧ w'.cell? ⟨w.heap.size, 3, none⟩ = some (.int .i64 cur) ∧ w'.cell? ⟨w.heap.size, 4, none⟩ = some (.int .i64 tax) ∧ w'.cell? ⟨w.heap.size, 5, none⟩ = some (.slice A n c) ∧ w'.cell? ⟨w.heap.size, 6, none⟩ = some (.int .i64 paid) ∧ w'.cell? ⟨w.heap.size, 7, none⟩ = some (.int .i64 refunded) ∧ w'.cell? ⟨w.heap.size, 8, none⟩ = some (.int .i64 events) ∧ w'.cell? ⟨w.heap.size, 9, none⟩ = some (.int .i64 refused) ∧ w'.cell? ⟨w.heap.size, 10, none⟩ = some (.int .i64 stamp) ∧ w'.cell? ⟨w.heap.size, 11, none⟩ = some (.string who) ∧ w'.cell? ⟨w.heap.size + 1, 0, none⟩ = some (.int .i64 ek) ∧ w'.cell? ⟨w.heap.size + 1, 1, none⟩ = some (.int .i64 eo) ∧ w'.cell? ⟨w.heap.size + 1, 2, none⟩ = some (.int .i64 ei) ∧ w'.cell? ⟨w.heap.size + 1, 3, none⟩ = some (.int .i64 eq) ∧ w'.cell? ⟨w.heap.size + 1, 4, none⟩ = some (.int .i64 ep) ∧ w'.cell? ⟨w.heap.size + 1, 5, none⟩ = some (.int .i64 ec) ∧ w'.cell? ⟨w.heap.size + 1, 6, none⟩ = some (.int .i64 et) ∧ w'.cell? ⟨w.heap.size + 1, 7, none⟩ = some (.string ew) ∧ w'.cell? ⟨w.heap.size + 1, 8, none⟩ = some (.int .i64 es) ∧ w'.cell? ⟨w.heap.size + 1, 9, none⟩ = some (.string en)) w'))
  have hv1 : IntKind.i64.wrap (events + 1) = events + 1 := by rw [IntKind.wrap_i64]; omega
  have k1 : (ek == 1) = false := hk1 1 (by omega)
  have k2 : (ek == 2) = false := hk1 2 (by omega)
  have k3 : (ek == 3) = false := hk1 3 (by omega)
  have k5 : (ek == 5) = false := hk1 5 (by omega)
  have k6 : (ek == 6) = false := hk1 6 (by omega)
  have k7 : (ek == 7) = false := hk1 7 (by omega)
  have k8 : (ek == 8) = false := hk1 8 (by omega)
  have k9 : (ek == 9) = false := hk1 9 (by omega)
  have k10 : (ek == 10) = false := hk1 10 (by omega)
  clear hk1 hk
  have hPn : (P : Int) < (n : Int) := by omega
  have hP0 : (0 : Int) ≤ (P : Int) := by omega
  cases BT with
  | true =>
    rw [if_pos rfl]
    generalize hsv : (if stamp < es then es else stamp) = sv
    generalize hwv : (if ew.size = 0 then who else ew) = wv
    refine four (p := stamp < es) (q := ew.size = 0) ?aa ?ab ?ba ?bb
    case' aa => intro hst hwz; rw [if_pos hst] at hsv; rw [if_pos hwz] at hwv; have hwt : ew.toList.isEmpty = true := by rw [who_empty]; simpa using hwz
    case' ab => intro hst hwz; rw [if_pos hst] at hsv; rw [if_neg hwz] at hwv; have hwt : ew.toList.isEmpty = false := by rw [who_empty]; simpa using hwz
    case' ba => intro hst hwz; rw [if_neg hst] at hsv; rw [if_pos hwz] at hwv; have hwt : ew.toList.isEmpty = true := by rw [who_empty]; simpa using hwz
    case' bb => intro hst hwz; rw [if_neg hst] at hsv; rw [if_neg hwz] at hwv; have hwt : ew.toList.isEmpty = false := by rw [who_empty]; simpa using hwz
    all_goals
      have Hsv := Lib.hid hsv
      have Hwv := Lib.hid hwv
      clear hsv hwv hwz
      go_enter Try.func26, Try.ntmps26
      go_upto_region 13 with (first | (go_at_call 15; (with_reducible refine (K3.out _ (hr.ext exA)).mono ?_); rintro e w1 ⟨A1, c1, rfl, hx1, ho1⟩; have hG : w.heap.size + 1 + 1 + 1 ≤ w1.heap.size := (by have := hx1.size; simpa using this); have hn0 : ¬ (w.heap.size = w1.heap.size) := (by omega); have hn1 : ¬ (w1.heap.size = w.heap.size) := (by omega); have hn2 : ¬ (w.heap.size + 1 = w1.heap.size) := (by omega); have hn3 : ¬ (w1.heap.size = w.heap.size + 1) := (by omega); have hn4 : ¬ (w.heap.size + 1 + 1 = w1.heap.size) := (by omega); have hn5 : ¬ (w1.heap.size = w.heap.size + 1 + 1) := (by omega); have h3 := HS.out (w1.alloc (.cells #[.int .i64 order, .int .i64 status, .int .i64 prior, .int .i64 cur, .int .i64 tax, .slice A1 n c1, .int .i64 paid, .int .i64 refunded, .int .i64 events, .int .i64 refused, .int .i64 stamp, .string who] 25)) (ExtA hx1); go_split_ands) | (go_at_call 25; (with_reducible refine (KJ.out _ (hr.ext exA)).mono ?_); rintro e w2 ⟨rfl, hx2⟩; have d6 : Blk w2 w1.heap.size 25 #[.int .i64 order, .int .i64 status, .int .i64 prior, .int .i64 cur, .int .i64 tax, .slice A1 n c1, .int .i64 paid, .int .i64 refunded, .int .i64 events, .int .i64 refused, .int .i64 stamp, .string who] := BlkE (BlkN rfl) hx2; have d4 : Blk w2 (w.heap.size + 1 + 1) 25 #[.int .i64 0, .int .i64 0, .int .i64 0, .int .i64 0, .int .i64 0, .slice none 0 0, .int .i64 0, .int .i64 0, .int .i64 0, .int .i64 0, .int .i64 0, .string ⟨#[]⟩] := BlkE (BlkA (BlkE (BlkN (by simp)) hx1)) hx2; have o2 : OwnLs w2 (w.heap.size + 1 + 1 + 1) A1 ls c1 := own_less (OwnLs.mono (OwnA ho1) hx2) (by simp); have HN := Lib.hid (own_apart o2 d6); have HN4 := Lib.hid (own_apart o2 d4); have Ho := Lib.hid o2; have h3 := HS.out w2 (Ext.tr (ExtA hx1) hx2); go_split_ands; (have p0 : World.cell? w2 ⟨w1.heap.size, 0, none⟩ = some (.int .i64 order) := Blk.cell d6 0; have p1 : World.cell? w2 ⟨w1.heap.size, 1, none⟩ = some (.int .i64 status) := Blk.cell d6 1; have p2 : World.cell? w2 ⟨w1.heap.size, 2, none⟩ = some (.int .i64 prior) := Blk.cell d6 2; have p3 : World.cell? w2 ⟨w1.heap.size, 3, none⟩ = some (.int .i64 cur) := Blk.cell d6 3; have p4 : World.cell? w2 ⟨w1.heap.size, 4, none⟩ = some (.int .i64 tax) := Blk.cell d6 4; have p5 : World.cell? w2 ⟨w1.heap.size, 5, none⟩ = some _ := Blk.cell d6 5; have p6 : World.cell? w2 ⟨w1.heap.size, 6, none⟩ = some (.int .i64 paid) := Blk.cell d6 6; have p7 : World.cell? w2 ⟨w1.heap.size, 7, none⟩ = some (.int .i64 refunded) := Blk.cell d6 7; have p8 : World.cell? w2 ⟨w1.heap.size, 8, none⟩ = some (.int .i64 events) := Blk.cell d6 8; have p9 : World.cell? w2 ⟨w1.heap.size, 9, none⟩ = some (.int .i64 refused) := Blk.cell d6 9; have p10 : World.cell? w2 ⟨w1.heap.size, 10, none⟩ = some (.int .i64 stamp) := Blk.cell d6 10; have p11 : World.cell? w2 ⟨w1.heap.size, 11, none⟩ = some (.string who) := Blk.cell d6 11); have y1 := d6.frozen 1; have y2 := d6.frozen 2; have y3 := d6.frozen 3; have y4 := d6.frozen 4; have y5 := d6.frozen 5; have y6 := d6.frozen 6; have y7 := d6.frozen 7; have y8 := d6.frozen 8; have y9 := d6.frozen 9; have y10 := d6.frozen 10; have y11 := d6.frozen 11))
    case' _ =>
      have e6 : Blk (World.setCell (World.setCell w2 ⟨w1.heap.size, 8, none⟩ (.int .i64 (events + 1))) ⟨w1.heap.size, 11, none⟩ (.string ew)) w1.heap.size 25 #[.int .i64 order, .int .i64 status, .int .i64 prior, .int .i64 cur, .int .i64 tax, .slice A1 n c1, .int .i64 paid, .int .i64 refunded, .int .i64 (events + 1), .int .i64 refused, .int .i64 sv, .string wv] := Blk_eq (BlkS (BlkS d6)) (by rw [← Hsv.out, ← Hwv.out]; rfl)
      have e4 : Blk (World.setCell (World.setCell w2 ⟨w1.heap.size, 8, none⟩ (.int .i64 (events + 1))) ⟨w1.heap.size, 11, none⟩ (.string ew)) (w.heap.size + 1 + 1) 25 #[.int .i64 0, .int .i64 0, .int .i64 0, .int .i64 0, .int .i64 0, .slice none 0 0, .int .i64 0, .int .i64 0, .int .i64 0, .int .i64 0, .int .i64 0, .string ⟨#[]⟩] := bkV
      have oz : OwnLs (World.setCell (World.setCell w2 ⟨w1.heap.size, 8, none⟩ (.int .i64 (events + 1))) ⟨w1.heap.size, 11, none⟩ (.string ew)) (w.heap.size + 1 + 1 + 1) A1 ls c1 := (OwnSt HN.out (OwnSt HN.out o2))
      have hXz : Ext (((w.alloc (.cells #[.int .i64 order, .int .i64 status, .int .i64 prior, .int .i64 cur, .int .i64 tax, .slice A n c, .int .i64 paid, .int .i64 refunded, .int .i64 events, .int .i64 refused, .int .i64 stamp, .string who] 25)).alloc (.cells #[.int .i64 ek, .int .i64 eo, .int .i64 ei, .int .i64 eq, .int .i64 ep, .int .i64 ec, .int .i64 et, .string ew, .int .i64 es, .string en] 28)).alloc (.cells #[.int .i64 0, .int .i64 0, .int .i64 0, .int .i64 0, .int .i64 0, .slice none 0 0, .int .i64 0, .int .i64 0, .int .i64 0, .int .i64 0, .int .i64 0, .string ⟨#[]⟩] 25)) (World.setCell (World.setCell w2 ⟨w1.heap.size, 8, none⟩ (.int .i64 (events + 1))) ⟨w1.heap.size, 11, none⟩ (.string ew)) := exA
      have hz3 := HS.out (World.setCell (World.setCell w2 ⟨w1.heap.size, 8, none⟩ (.int .i64 (events + 1))) ⟨w1.heap.size, 11, none⟩ (.string ew)) hXz
      clear p0 p1 p2 p3 p4 p5 p6 p7 p8 p9 p10 p11 y1 y2 y3 y4 y5 y6 y7 y8 y9 y10 y11 d6 d4 o2 Ho ho1
      have hX1 : w.heap.size + 1 + 1 + 1 ≤ w1.heap.size := hG
      generalize (World.setCell (World.setCell w2 ⟨w1.heap.size, 8, none⟩ (.int .i64 (events + 1))) ⟨w1.heap.size, 11, none⟩ (.string ew)) = Wz at *
      generalize w1.heap.size = G at *
      clear hx1 hx2 K3 KJ
    rotate_left 1
    case' _ =>
      have e6 : Blk (World.setCell w2 ⟨w1.heap.size, 8, none⟩ (.int .i64 (events + 1))) w1.heap.size 25 #[.int .i64 order, .int .i64 status, .int .i64 prior, .int .i64 cur, .int .i64 tax, .slice A1 n c1, .int .i64 paid, .int .i64 refunded, .int .i64 (events + 1), .int .i64 refused, .int .i64 sv, .string wv] := Blk_eq (BlkS d6) (by rw [← Hsv.out, ← Hwv.out]; rfl)
      have e4 : Blk (World.setCell w2 ⟨w1.heap.size, 8, none⟩ (.int .i64 (events + 1))) (w.heap.size + 1 + 1) 25 #[.int .i64 0, .int .i64 0, .int .i64 0, .int .i64 0, .int .i64 0, .slice none 0 0, .int .i64 0, .int .i64 0, .int .i64 0, .int .i64 0, .int .i64 0, .string ⟨#[]⟩] := bkV
      have oz : OwnLs (World.setCell w2 ⟨w1.heap.size, 8, none⟩ (.int .i64 (events + 1))) (w.heap.size + 1 + 1 + 1) A1 ls c1 := (OwnSt HN.out o2)
      have hXz : Ext (((w.alloc (.cells #[.int .i64 order, .int .i64 status, .int .i64 prior, .int .i64 cur, .int .i64 tax, .slice A n c, .int .i64 paid, .int .i64 refunded, .int .i64 events, .int .i64 refused, .int .i64 stamp, .string who] 25)).alloc (.cells #[.int .i64 ek, .int .i64 eo, .int .i64 ei, .int .i64 eq, .int .i64 ep, .int .i64 ec, .int .i64 et, .string ew, .int .i64 es, .string en] 28)).alloc (.cells #[.int .i64 0, .int .i64 0, .int .i64 0, .int .i64 0, .int .i64 0, .slice none 0 0, .int .i64 0, .int .i64 0, .int .i64 0, .int .i64 0, .int .i64 0, .string ⟨#[]⟩] 25)) (World.setCell w2 ⟨w1.heap.size, 8, none⟩ (.int .i64 (events + 1))) := exA
      have hz3 := HS.out (World.setCell w2 ⟨w1.heap.size, 8, none⟩ (.int .i64 (events + 1))) hXz
      clear p0 p1 p2 p3 p4 p5 p6 p7 p8 p9 p10 p11 y1 y2 y3 y4 y5 y6 y7 y8 y9 y10 y11 d6 d4 o2 Ho ho1
      have hX1 : w.heap.size + 1 + 1 + 1 ≤ w1.heap.size := hG
      generalize (World.setCell w2 ⟨w1.heap.size, 8, none⟩ (.int .i64 (events + 1))) = Wz at *
      generalize w1.heap.size = G at *
      clear hx1 hx2 K3 KJ
    rotate_left 1
    case' _ =>
      have e6 : Blk (World.setCell (World.setCell (World.setCell w2 ⟨w1.heap.size, 8, none⟩ (.int .i64 (events + 1))) ⟨w1.heap.size, 10, none⟩ (.int .i64 es)) ⟨w1.heap.size, 11, none⟩ (.string ew)) w1.heap.size 25 #[.int .i64 order, .int .i64 status, .int .i64 prior, .int .i64 cur, .int .i64 tax, .slice A1 n c1, .int .i64 paid, .int .i64 refunded, .int .i64 (events + 1), .int .i64 refused, .int .i64 sv, .string wv] := Blk_eq (BlkS (BlkS (BlkS d6))) (by rw [← Hsv.out, ← Hwv.out]; rfl)
      have e4 : Blk (World.setCell (World.setCell (World.setCell w2 ⟨w1.heap.size, 8, none⟩ (.int .i64 (events + 1))) ⟨w1.heap.size, 10, none⟩ (.int .i64 es)) ⟨w1.heap.size, 11, none⟩ (.string ew)) (w.heap.size + 1 + 1) 25 #[.int .i64 0, .int .i64 0, .int .i64 0, .int .i64 0, .int .i64 0, .slice none 0 0, .int .i64 0, .int .i64 0, .int .i64 0, .int .i64 0, .int .i64 0, .string ⟨#[]⟩] := bkV
      have oz : OwnLs (World.setCell (World.setCell (World.setCell w2 ⟨w1.heap.size, 8, none⟩ (.int .i64 (events + 1))) ⟨w1.heap.size, 10, none⟩ (.int .i64 es)) ⟨w1.heap.size, 11, none⟩ (.string ew)) (w.heap.size + 1 + 1 + 1) A1 ls c1 := (OwnSt HN.out (OwnSt HN.out (OwnSt HN.out o2)))
      have hXz : Ext (((w.alloc (.cells #[.int .i64 order, .int .i64 status, .int .i64 prior, .int .i64 cur, .int .i64 tax, .slice A n c, .int .i64 paid, .int .i64 refunded, .int .i64 events, .int .i64 refused, .int .i64 stamp, .string who] 25)).alloc (.cells #[.int .i64 ek, .int .i64 eo, .int .i64 ei, .int .i64 eq, .int .i64 ep, .int .i64 ec, .int .i64 et, .string ew, .int .i64 es, .string en] 28)).alloc (.cells #[.int .i64 0, .int .i64 0, .int .i64 0, .int .i64 0, .int .i64 0, .slice none 0 0, .int .i64 0, .int .i64 0, .int .i64 0, .int .i64 0, .int .i64 0, .string ⟨#[]⟩] 25)) (World.setCell (World.setCell (World.setCell w2 ⟨w1.heap.size, 8, none⟩ (.int .i64 (events + 1))) ⟨w1.heap.size, 10, none⟩ (.int .i64 es)) ⟨w1.heap.size, 11, none⟩ (.string ew)) := exA
      have hz3 := HS.out (World.setCell (World.setCell (World.setCell w2 ⟨w1.heap.size, 8, none⟩ (.int .i64 (events + 1))) ⟨w1.heap.size, 10, none⟩ (.int .i64 es)) ⟨w1.heap.size, 11, none⟩ (.string ew)) hXz
      clear p0 p1 p2 p3 p4 p5 p6 p7 p8 p9 p10 p11 y1 y2 y3 y4 y5 y6 y7 y8 y9 y10 y11 d6 d4 o2 Ho ho1
      have hX1 : w.heap.size + 1 + 1 + 1 ≤ w1.heap.size := hG
      generalize (World.setCell (World.setCell (World.setCell w2 ⟨w1.heap.size, 8, none⟩ (.int .i64 (events + 1))) ⟨w1.heap.size, 10, none⟩ (.int .i64 es)) ⟨w1.heap.size, 11, none⟩ (.string ew)) = Wz at *
      generalize w1.heap.size = G at *
      clear hx1 hx2 K3 KJ
    rotate_left 1
    case' _ =>
      have e6 : Blk (World.setCell (World.setCell w2 ⟨w1.heap.size, 8, none⟩ (.int .i64 (events + 1))) ⟨w1.heap.size, 10, none⟩ (.int .i64 es)) w1.heap.size 25 #[.int .i64 order, .int .i64 status, .int .i64 prior, .int .i64 cur, .int .i64 tax, .slice A1 n c1, .int .i64 paid, .int .i64 refunded, .int .i64 (events + 1), .int .i64 refused, .int .i64 sv, .string wv] := Blk_eq (BlkS (BlkS d6)) (by rw [← Hsv.out, ← Hwv.out]; rfl)
      have e4 : Blk (World.setCell (World.setCell w2 ⟨w1.heap.size, 8, none⟩ (.int .i64 (events + 1))) ⟨w1.heap.size, 10, none⟩ (.int .i64 es)) (w.heap.size + 1 + 1) 25 #[.int .i64 0, .int .i64 0, .int .i64 0, .int .i64 0, .int .i64 0, .slice none 0 0, .int .i64 0, .int .i64 0, .int .i64 0, .int .i64 0, .int .i64 0, .string ⟨#[]⟩] := bkV
      have oz : OwnLs (World.setCell (World.setCell w2 ⟨w1.heap.size, 8, none⟩ (.int .i64 (events + 1))) ⟨w1.heap.size, 10, none⟩ (.int .i64 es)) (w.heap.size + 1 + 1 + 1) A1 ls c1 := (OwnSt HN.out (OwnSt HN.out o2))
      have hXz : Ext (((w.alloc (.cells #[.int .i64 order, .int .i64 status, .int .i64 prior, .int .i64 cur, .int .i64 tax, .slice A n c, .int .i64 paid, .int .i64 refunded, .int .i64 events, .int .i64 refused, .int .i64 stamp, .string who] 25)).alloc (.cells #[.int .i64 ek, .int .i64 eo, .int .i64 ei, .int .i64 eq, .int .i64 ep, .int .i64 ec, .int .i64 et, .string ew, .int .i64 es, .string en] 28)).alloc (.cells #[.int .i64 0, .int .i64 0, .int .i64 0, .int .i64 0, .int .i64 0, .slice none 0 0, .int .i64 0, .int .i64 0, .int .i64 0, .int .i64 0, .int .i64 0, .string ⟨#[]⟩] 25)) (World.setCell (World.setCell w2 ⟨w1.heap.size, 8, none⟩ (.int .i64 (events + 1))) ⟨w1.heap.size, 10, none⟩ (.int .i64 es)) := exA
      have hz3 := HS.out (World.setCell (World.setCell w2 ⟨w1.heap.size, 8, none⟩ (.int .i64 (events + 1))) ⟨w1.heap.size, 10, none⟩ (.int .i64 es)) hXz
      clear p0 p1 p2 p3 p4 p5 p6 p7 p8 p9 p10 p11 y1 y2 y3 y4 y5 y6 y7 y8 y9 y10 y11 d6 d4 o2 Ho ho1
      have hX1 : w.heap.size + 1 + 1 + 1 ≤ w1.heap.size := hG
      generalize (World.setCell (World.setCell w2 ⟨w1.heap.size, 8, none⟩ (.int .i64 (events + 1))) ⟨w1.heap.size, 10, none⟩ (.int .i64 es)) = Wz at *
      generalize w1.heap.size = G at *
      clear hx1 hx2 K3 KJ
    rotate_left 1
    all_goals
      go_split_ands
      have p0 := e6.cell 0
      have p1 := e6.cell 1
      have p2 := e6.cell 2
      have p3 := e6.cell 3
      have p4 := e6.cell 4
      have p5 := e6.cell 5
      have p6 := e6.cell 6
      have p7 := e6.cell 7
      have p8 := e6.cell 8
      have p9 := e6.cell 9
      have p10 := e6.cell 10
      have p11 := e6.cell 11
      have y1 := e6.frozen 1
      have y2 := e6.frozen 2
      have y3 := e6.frozen 3
      have y4 := e6.frozen 4
      have y5 := e6.frozen 5
      have y6 := e6.frozen 6
      have y7 := e6.frozen 7
      have y8 := e6.frozen 8
      have y9 := e6.frozen 9
      have y10 := e6.frozen 10
      have y11 := e6.frozen 11
      have Ho := Lib.hid oz
      have hzz : w.heap.size + 1 + 1 + 1 ≤ Wz.heap.size := by have := hXz.size; simpa using this
      clear Ho p0 p1 p2 p3 p4 p5 p6 p7 p8 p9 p10 p11 y1 y2 y3 y4 y5 y6 y7 y8 y9 y10 y11
      obtain ⟨lb, _, rfl, hlbw, _⟩ := own_blk oz (by have := Hn.out; omega)
      have hglb : G ≠ lb := fun h => HN.out 0 0 (by rw [h]; rfl)
      have hLz := HLn.out Wz _ lb c1 oz
      have hc3 : Wz.cell? ⟨lb, P * 4 + 3, none⟩ = some (.int .i64 lsh) := hLz 3 _ rfl
      have hf3 : Wz.frozen? ⟨lb, P * 4 + 3, none⟩ = false := own_frozen_ oz (P * 4 + 3)
      have hsz3 : (((w.alloc (.cells #[.int .i64 order, .int .i64 status, .int .i64 prior, .int .i64 cur, .int .i64 tax, .slice A n c, .int .i64 paid, .int .i64 refunded, .int .i64 events, .int .i64 refused, .int .i64 stamp, .string who] 25)).alloc (.cells #[.int .i64 ek, .int .i64 eo, .int .i64 ei, .int .i64 eq, .int .i64 ep, .int .i64 ec, .int .i64 et, .string ew, .int .i64 es, .string en] 28)).alloc (.cells #[.int .i64 0, .int .i64 0, .int .i64 0, .int .i64 0, .int .i64 0, .slice none 0 0, .int .i64 0, .int .i64 0, .int .i64 0, .int .i64 0, .int .i64 0, .string ⟨#[]⟩] 25)).heap.size ≤ lb := by simpa using hlbw
      go_upto_region 27 with fail
      refine wp_region_held_drew (S := fun w' => Ext (((w.alloc (.cells #[.int .i64 order, .int .i64 status, .int .i64 prior, .int .i64 cur, .int .i64 tax, .slice A n c, .int .i64 paid, .int .i64 refunded, .int .i64 events, .int .i64 refused, .int .i64 stamp, .string who] 25)).alloc (.cells #[.int .i64 ek, .int .i64 eo, .int .i64 ei, .int .i64 eq, .int .i64 ep, .int .i64 ec, .int .i64 et, .string ew, .int .i64 es, .string en] 28)).alloc (.cells #[.int .i64 0, .int .i64 0, .int .i64 0, .int .i64 0, .int .i64 0, .slice none 0 0, .int .i64 0, .int .i64 0, .int .i64 0, .int .i64 0, .int .i64 0, .string ⟨#[]⟩] 25)) w' ∧ Blk w' G 25 #[.int .i64 order, .int .i64 status, .int .i64 prior, .int .i64 cur, .int .i64 tax, .slice (some ⟨lb, 0, none⟩) n c1, .int .i64 paid, .int .i64 refunded, .int .i64 (events + 1), .int .i64 refused, .int .i64 sv, .string wv]) (by kernel_rfl) ⟨ExtD hXz, BlkD e6⟩ (fun hS => ?_)
      refine takeD (some 92) (i := 0) (v := .pointer (some ⟨G, 5, none⟩)) rfl rfl (by kernel_rfl) (by kernel_rfl) (by kernel_rfl) (fun _ _ _ h => h) (Or.inl ⟨by kernel_rfl, fun w9 hSw => by go_simp⟩) hS ?_; (try simp only [Act.put, List.setIfInBounds_toArray, List.set_cons_zero, List.set_cons_succ])
      refine takeD (some 93) (i := 1) (v := .slice (some ⟨lb, 0, none⟩) n c1) rfl rfl (by kernel_rfl) (by kernel_rfl) (by kernel_rfl) (fun _ _ _ h => h) (Or.inl ⟨by kernel_rfl, fun w9 hSw => by have hc : w9.cell? ⟨G, 5, none⟩ = some (.slice (some ⟨lb, 0, none⟩) n c1) := hSw.2.cell 5; go_simp⟩) hS ?_; (try simp only [Act.put, List.setIfInBounds_toArray, List.set_cons_zero, List.set_cons_succ])
      refine takeD (some 94) (i := 2) (v := .agg #[.int .i64 order, .int .i64 status, .int .i64 prior, .int .i64 cur, .int .i64 tax, .slice A n c, .int .i64 paid, .int .i64 refunded, .int .i64 events, .int .i64 refused, .int .i64 stamp, .string who]) rfl rfl (by kernel_rfl) (by kernel_rfl) (by kernel_rfl) (fun _ _ _ h => h) (yields_row (by kernel_rfl) 25 (.tmp 2) rfl w.heap.size 25 #[.int .i64 order, .int .i64 status, .int .i64 prior, .int .i64 cur, .int .i64 tax, .slice A n c, .int .i64 paid, .int .i64 refunded, .int .i64 events, .int .i64 refused, .int .i64 stamp, .string who] 12 rfl (fun w9 hw => Ext.blk hw.1 (BlkA (BlkA (BlkN rfl)))) st_wide rfl) hS ?_; (try simp only [Act.put, List.setIfInBounds_toArray, List.set_cons_zero, List.set_cons_succ])
      refine takeD (some 95) (i := 3) (v := .pointer (some ⟨w.heap.size + 1, 2, none⟩)) rfl rfl (by kernel_rfl) (by kernel_rfl) (by kernel_rfl) (fun _ _ _ h => h) (Or.inl ⟨by kernel_rfl, fun w9 hSw => by go_simp⟩) hS ?_; (try simp only [Act.put, List.setIfInBounds_toArray, List.set_cons_zero, List.set_cons_succ])
      refine takeD (some 96) (i := 4) (v := .int .i64 ei) rfl rfl (by kernel_rfl) (by kernel_rfl) (by kernel_rfl) (fun _ _ _ h => h) (Or.inl ⟨by kernel_rfl, fun w9 hSw => by have hc : w9.cell? ⟨w.heap.size + 1, 2, none⟩ = some (.int .i64 ei) := (Ext.blk hSw.1 (BlkA (BlkN (by simp)))).cell 2; go_simp⟩) hS ?_; (try simp only [Act.put, List.setIfInBounds_toArray, List.set_cons_zero, List.set_cons_succ])
      refine takeD (some 101) (i := 9) (v := .pointer (some ⟨w.heap.size + 1, 3, none⟩)) rfl rfl (by kernel_rfl) (by kernel_rfl) (by kernel_rfl) (fun _ _ _ h => h) (Or.inl ⟨by kernel_rfl, fun w9 hSw => by go_simp⟩) hS ?_; (try simp only [Act.put, List.setIfInBounds_toArray, List.set_cons_zero, List.set_cons_succ])
      refine takeD (some 102) (i := 10) (v := .int .i64 eq) rfl rfl (by kernel_rfl) (by kernel_rfl) (by kernel_rfl) (fun _ _ _ h => h) (Or.inl ⟨by kernel_rfl, fun w9 hSw => by have hc : w9.cell? ⟨w.heap.size + 1, 3, none⟩ = some (.int .i64 eq) := (Ext.blk hSw.1 (BlkA (BlkN (by simp)))).cell 3; go_simp⟩) hS ?_; (try simp only [Act.put, List.setIfInBounds_toArray, List.set_cons_zero, List.set_cons_succ])
      refine wpAnyH_ready (rs := [5]) (by kernel_rfl) (by simp) (AllReadyH.cons rfl (fun K hK => ?_) AllReadyH.nil)
      (refine step_call rfl (some 97) rfl 45 _ Try.func45 (by kernel_rfl) (by kernel_rfl) _ _ rfl #[.agg #[.int .i64 order, .int .i64 status, .int .i64 prior, .int .i64 cur, .int .i64 tax, .slice A n c, .int .i64 paid, .int .i64 refunded, .int .i64 events, .int .i64 refused, .int .i64 stamp, .string who], .int .i64 ei] (by simp [Act.eval, Act.put]) _ (KA.out _ (hr.ext (Ext.tr (ExtA (ExtA (ExtA (Ext.rfl' w)))) hS.1))) ?_; intro w5 hx5; have hE : Ext Wz w5 := Ext.tr (ExtD (Ext.rfl' Wz)) hx5; refine hK.out _ _ ⟨Ext.tr hS.1 hx5, BlkE hS.2 hx5⟩ ?_; intro hS; clear hK hx5; (try simp only [Act.put, List.setIfInBounds_toArray, List.set_cons_zero, List.set_cons_succ]))
      have hc5 := Ext.cell hE hc3
      have hf5 := Ext.frz hE hc3 hf3
      refine takeD (some 98) (i := 6) (v := .pointer (some ⟨lb, P * 4, none⟩)) rfl rfl (by kernel_rfl) (by kernel_rfl) (by kernel_rfl) (fun _ _ _ h => h) (Or.inl ⟨by kernel_rfl, fun w9 hSw => by go_simp⟩) hS ?_; (try simp only [Act.put, List.setIfInBounds_toArray, List.set_cons_zero, List.set_cons_succ])
      refine takeD (some 99) (i := 7) (v := .pointer (some ⟨lb, P * 4 + 3, none⟩)) rfl rfl (by kernel_rfl) (by kernel_rfl) (by kernel_rfl) (fun _ _ _ h => h) (Or.inl ⟨by kernel_rfl, fun w9 hSw => by go_simp⟩) hS ?_; (try simp only [Act.put, List.setIfInBounds_toArray, List.set_cons_zero, List.set_cons_succ])
      refine wpAnyH_ready (rs := [8]) (by kernel_rfl) (by simp) (AllReadyH.cons rfl (fun K hK => ?_) AllReadyH.nil)
      (go_simp; refine hK.out _ _ hS ?_; intro hS; clear hK; (try simp only [Act.put, List.setIfInBounds_toArray, List.set_cons_zero, List.set_cons_succ]))
      refine takeD (some 103) (i := 11) (v := .int .i64 (lsh + eq)) rfl rfl (by kernel_rfl) (by kernel_rfl) (by kernel_rfl) (fun _ _ _ h => h) (Or.inl ⟨by kernel_rfl, fun w9 hSw => by go_simp⟩) hS ?_; (try simp only [Act.put, List.setIfInBounds_toArray, List.set_cons_zero, List.set_cons_succ])
      refine takeD (some 104) (i := 12) (v := .pointer (some ⟨lb, P * 4, none⟩)) rfl rfl (by kernel_rfl) (by kernel_rfl) (by kernel_rfl) (fun _ _ _ h => h) (Or.inl ⟨by kernel_rfl, fun w9 hSw => by go_simp⟩) hS ?_; (try simp only [Act.put, List.setIfInBounds_toArray, List.set_cons_zero, List.set_cons_succ])
      refine takeD (some 105) (i := 13) (v := .pointer (some ⟨lb, P * 4 + 3, none⟩)) rfl rfl (by kernel_rfl) (by kernel_rfl) (by kernel_rfl) (fun _ _ _ h => h) (Or.inl ⟨by kernel_rfl, fun w9 hSw => by go_simp⟩) hS ?_; (try simp only [Act.put, List.setIfInBounds_toArray, List.set_cons_zero, List.set_cons_succ])
      refine wpAnyH_ready (rs := [14]) (by kernel_rfl) (by simp) (AllReadyH.cons rfl (fun K hK => ?_) AllReadyH.nil)
      (go_simp; refine hK.out _ _ ⟨ExtS (by dsimp only; omega) hS.1, BlkF hglb hS.2⟩ ?_; intro hS; clear hK; (try simp only [Act.put, List.setIfInBounds_toArray, List.set_cons_zero, List.set_cons_succ]))
      refine wpAnyH_done (by kernel_rfl) ?_ _
      have oN := HSet.out w5 _ lb c1 (OwnLs.mono oz hE)
      have e6 := hS.2
      have e4 : Blk (w5.setCell ⟨lb, P * 4 + 3, none⟩ (.int .i64 (lsh + eq))) (w.heap.size + 1 + 1) 25 #[.int .i64 0, .int .i64 0, .int .i64 0, .int .i64 0, .int .i64 0, .slice none 0 0, .int .i64 0, .int .i64 0, .int .i64 0, .int .i64 0, .int .i64 0, .string ⟨#[]⟩] := BlkF (by dsimp only; omega) (BlkE e4 hE)
      have hXy : Ext w (w5.setCell ⟨lb, P * 4 + 3, none⟩ (.int .i64 (lsh + eq))) := Ext.tr (ExtA (ExtA (ExtA (Ext.rfl' w)))) hS.1
      clear hS oz hE hc5 hf5 hc3 hf3 hLz hsz3 hXz
      generalize (w5.setCell ⟨lb, P * 4 + 3, none⟩ (.int .i64 (lsh + eq))) = Wy at *
      have p0 := e6.cell 0
      have p1 := e6.cell 1
      have p2 := e6.cell 2
      have p3 := e6.cell 3
      have p4 := e6.cell 4
      have p5 := e6.cell 5
      have p6 := e6.cell 6
      have p7 := e6.cell 7
      have p8 := e6.cell 8
      have p9 := e6.cell 9
      have p10 := e6.cell 10
      have p11 := e6.cell 11
      go_wp2_with (first | (go_at_call 34; (with_reducible refine (KWh.out _ _ _ _ _ (oN.rd.ext exA)).mono ?_); rintro e w7 ⟨rfl, hx7⟩; have e6 := BlkE e6 hx7; have e4 := BlkE e4 hx7; have oN := OwnLs.mono oN hx7; have r0 := e6.cell 0; have r1 := e6.cell 1; have r2 := e6.cell 2; have r3 := e6.cell 3; have r4 := e6.cell 4; have r5 := e6.cell 5; have r6 := e6.cell 6; have r7 := e6.cell 7; have r8 := e6.cell 8; have r9 := e6.cell 9; have r10 := e6.cell 10; have r11 := e6.cell 11; have y1' := e6.frozen 1) | (with_reducible refine wpL_store_row rfl 25 (.tmp 4) (.tmp 154) rfl _ 25 _ _ rfl rfl (show Blk _ (w.heap.size + 1 + 1) 25 #[.int .i64 0, .int .i64 0, .int .i64 0, .int .i64 0, .int .i64 0, .slice none 0 0, .int .i64 0, .int .i64 0, .int .i64 0, .int .i64 0, .int .i64 0, .string ⟨#[]⟩] from bkV) ((st_size' _ _ _ _ _ _ _ _ _ _ _ _ _ _).trans (st_size' _ _ _ _ _ _ _ _ _ _ _ _ _ _).symm) (st_one' _ _ _ _ _ _ _ _ _ _ _ _ _ _) 12 st_wide (st_size' _ _ _ _ _ _ _ _ _ _ _ _ _ _) ?_))
      refine bodyPost_ret (res_row_t rfl _ _ 25 _ 12 _ rfl rfl (Blk.setRow_ (show Blk _ (w.heap.size + 1 + 1) 25 #[.int .i64 0, .int .i64 0, .int .i64 0, .int .i64 0, .int .i64 0, .slice none 0 0, .int .i64 0, .int .i64 0, .int .i64 0, .int .i64 0, .int .i64 0, .string ⟨#[]⟩] from bkV)) st_wide rfl) rfl ?_
      have HNT := own_apart oN e6
      have HN4T := own_apart oN e4
      exact ⟨some ⟨lb, 0, none⟩, c1, rfl, exA, own_less (OwnRw HN4T (OwnSt HNT oN)) (by omega)⟩
  | false =>
    rw [if_neg (by decide)]
    generalize hsv : (if stamp < es then es else stamp) = sv
    generalize hwv : (if ew.size = 0 then who else ew) = wv
    refine four (p := stamp < es) (q := ew.size = 0) ?aax ?abx ?bax ?bbx
    case' aax => intro hst hwz; rw [if_pos hst] at hsv; rw [if_pos hwz] at hwv; have hwt : ew.toList.isEmpty = true := by rw [who_empty]; simpa using hwz
    case' abx => intro hst hwz; rw [if_pos hst] at hsv; rw [if_neg hwz] at hwv; have hwt : ew.toList.isEmpty = false := by rw [who_empty]; simpa using hwz
    case' bax => intro hst hwz; rw [if_neg hst] at hsv; rw [if_pos hwz] at hwv; have hwt : ew.toList.isEmpty = true := by rw [who_empty]; simpa using hwz
    case' bbx => intro hst hwz; rw [if_neg hst] at hsv; rw [if_neg hwz] at hwv; have hwt : ew.toList.isEmpty = false := by rw [who_empty]; simpa using hwz
    all_goals
      have Hsv := Lib.hid hsv
      have Hwv := Lib.hid hwv
      clear hsv hwv hwz
      go_enter Try.func26, Try.ntmps26
      go_upto_region 13 with (first | (go_at_call 15; (with_reducible refine (K3.out _ (hr.ext exA)).mono ?_); rintro e w1 ⟨A1, c1, rfl, hx1, ho1⟩; have hG : w.heap.size + 1 + 1 + 1 ≤ w1.heap.size := (by have := hx1.size; simpa using this); have hn0 : ¬ (w.heap.size = w1.heap.size) := (by omega); have hn1 : ¬ (w1.heap.size = w.heap.size) := (by omega); have hn2 : ¬ (w.heap.size + 1 = w1.heap.size) := (by omega); have hn3 : ¬ (w1.heap.size = w.heap.size + 1) := (by omega); have hn4 : ¬ (w.heap.size + 1 + 1 = w1.heap.size) := (by omega); have hn5 : ¬ (w1.heap.size = w.heap.size + 1 + 1) := (by omega); have h3 := HS.out (w1.alloc (.cells #[.int .i64 order, .int .i64 status, .int .i64 prior, .int .i64 cur, .int .i64 tax, .slice A1 n c1, .int .i64 paid, .int .i64 refunded, .int .i64 events, .int .i64 refused, .int .i64 stamp, .string who] 25)) (ExtA hx1); go_split_ands) | (go_at_call 25; (with_reducible refine (KJ.out _ (hr.ext exA)).mono ?_); rintro e w2 ⟨rfl, hx2⟩; have d6 : Blk w2 w1.heap.size 25 #[.int .i64 order, .int .i64 status, .int .i64 prior, .int .i64 cur, .int .i64 tax, .slice A1 n c1, .int .i64 paid, .int .i64 refunded, .int .i64 events, .int .i64 refused, .int .i64 stamp, .string who] := BlkE (BlkN rfl) hx2; have d4 : Blk w2 (w.heap.size + 1 + 1) 25 #[.int .i64 0, .int .i64 0, .int .i64 0, .int .i64 0, .int .i64 0, .slice none 0 0, .int .i64 0, .int .i64 0, .int .i64 0, .int .i64 0, .int .i64 0, .string ⟨#[]⟩] := BlkE (BlkA (BlkE (BlkN (by simp)) hx1)) hx2; have o2 : OwnLs w2 (w.heap.size + 1 + 1 + 1) A1 ls c1 := own_less (OwnLs.mono (OwnA ho1) hx2) (by simp); have HN := Lib.hid (own_apart o2 d6); have HN4 := Lib.hid (own_apart o2 d4); have Ho := Lib.hid o2; have h3 := HS.out w2 (Ext.tr (ExtA hx1) hx2); go_split_ands; (have p0 : World.cell? w2 ⟨w1.heap.size, 0, none⟩ = some (.int .i64 order) := Blk.cell d6 0; have p1 : World.cell? w2 ⟨w1.heap.size, 1, none⟩ = some (.int .i64 status) := Blk.cell d6 1; have p2 : World.cell? w2 ⟨w1.heap.size, 2, none⟩ = some (.int .i64 prior) := Blk.cell d6 2; have p3 : World.cell? w2 ⟨w1.heap.size, 3, none⟩ = some (.int .i64 cur) := Blk.cell d6 3; have p4 : World.cell? w2 ⟨w1.heap.size, 4, none⟩ = some (.int .i64 tax) := Blk.cell d6 4; have p5 : World.cell? w2 ⟨w1.heap.size, 5, none⟩ = some _ := Blk.cell d6 5; have p6 : World.cell? w2 ⟨w1.heap.size, 6, none⟩ = some (.int .i64 paid) := Blk.cell d6 6; have p7 : World.cell? w2 ⟨w1.heap.size, 7, none⟩ = some (.int .i64 refunded) := Blk.cell d6 7; have p8 : World.cell? w2 ⟨w1.heap.size, 8, none⟩ = some (.int .i64 events) := Blk.cell d6 8; have p9 : World.cell? w2 ⟨w1.heap.size, 9, none⟩ = some (.int .i64 refused) := Blk.cell d6 9; have p10 : World.cell? w2 ⟨w1.heap.size, 10, none⟩ = some (.int .i64 stamp) := Blk.cell d6 10; have p11 : World.cell? w2 ⟨w1.heap.size, 11, none⟩ = some (.string who) := Blk.cell d6 11); have y1 := d6.frozen 1; have y2 := d6.frozen 2; have y3 := d6.frozen 3; have y4 := d6.frozen 4; have y5 := d6.frozen 5; have y6 := d6.frozen 6; have y7 := d6.frozen 7; have y8 := d6.frozen 8; have y9 := d6.frozen 9; have y10 := d6.frozen 10; have y11 := d6.frozen 11))
    case' _ =>
      have e6 : Blk (World.setCell (World.setCell w2 ⟨w1.heap.size, 8, none⟩ (.int .i64 (events + 1))) ⟨w1.heap.size, 11, none⟩ (.string ew)) w1.heap.size 25 #[.int .i64 order, .int .i64 status, .int .i64 prior, .int .i64 cur, .int .i64 tax, .slice A1 n c1, .int .i64 paid, .int .i64 refunded, .int .i64 (events + 1), .int .i64 refused, .int .i64 sv, .string wv] := Blk_eq (BlkS (BlkS d6)) (by rw [← Hsv.out, ← Hwv.out]; rfl)
      have e4 : Blk (World.setCell (World.setCell w2 ⟨w1.heap.size, 8, none⟩ (.int .i64 (events + 1))) ⟨w1.heap.size, 11, none⟩ (.string ew)) (w.heap.size + 1 + 1) 25 #[.int .i64 0, .int .i64 0, .int .i64 0, .int .i64 0, .int .i64 0, .slice none 0 0, .int .i64 0, .int .i64 0, .int .i64 0, .int .i64 0, .int .i64 0, .string ⟨#[]⟩] := bkV
      have oz : OwnLs (World.setCell (World.setCell w2 ⟨w1.heap.size, 8, none⟩ (.int .i64 (events + 1))) ⟨w1.heap.size, 11, none⟩ (.string ew)) (w.heap.size + 1 + 1 + 1) A1 ls c1 := (OwnSt HN.out (OwnSt HN.out o2))
      have hXz : Ext (((w.alloc (.cells #[.int .i64 order, .int .i64 status, .int .i64 prior, .int .i64 cur, .int .i64 tax, .slice A n c, .int .i64 paid, .int .i64 refunded, .int .i64 events, .int .i64 refused, .int .i64 stamp, .string who] 25)).alloc (.cells #[.int .i64 ek, .int .i64 eo, .int .i64 ei, .int .i64 eq, .int .i64 ep, .int .i64 ec, .int .i64 et, .string ew, .int .i64 es, .string en] 28)).alloc (.cells #[.int .i64 0, .int .i64 0, .int .i64 0, .int .i64 0, .int .i64 0, .slice none 0 0, .int .i64 0, .int .i64 0, .int .i64 0, .int .i64 0, .int .i64 0, .string ⟨#[]⟩] 25)) (World.setCell (World.setCell w2 ⟨w1.heap.size, 8, none⟩ (.int .i64 (events + 1))) ⟨w1.heap.size, 11, none⟩ (.string ew)) := exA
      have hz3 := HS.out (World.setCell (World.setCell w2 ⟨w1.heap.size, 8, none⟩ (.int .i64 (events + 1))) ⟨w1.heap.size, 11, none⟩ (.string ew)) hXz
      clear p0 p1 p2 p3 p4 p5 p6 p7 p8 p9 p10 p11 y1 y2 y3 y4 y5 y6 y7 y8 y9 y10 y11 d6 d4 o2 Ho ho1
      have hX1 : w.heap.size + 1 + 1 + 1 ≤ w1.heap.size := hG
      generalize (World.setCell (World.setCell w2 ⟨w1.heap.size, 8, none⟩ (.int .i64 (events + 1))) ⟨w1.heap.size, 11, none⟩ (.string ew)) = Wz at *
      generalize w1.heap.size = G at *
      clear hx1 hx2 K3 KJ
    rotate_left 1
    case' _ =>
      have e6 : Blk (World.setCell w2 ⟨w1.heap.size, 8, none⟩ (.int .i64 (events + 1))) w1.heap.size 25 #[.int .i64 order, .int .i64 status, .int .i64 prior, .int .i64 cur, .int .i64 tax, .slice A1 n c1, .int .i64 paid, .int .i64 refunded, .int .i64 (events + 1), .int .i64 refused, .int .i64 sv, .string wv] := Blk_eq (BlkS d6) (by rw [← Hsv.out, ← Hwv.out]; rfl)
      have e4 : Blk (World.setCell w2 ⟨w1.heap.size, 8, none⟩ (.int .i64 (events + 1))) (w.heap.size + 1 + 1) 25 #[.int .i64 0, .int .i64 0, .int .i64 0, .int .i64 0, .int .i64 0, .slice none 0 0, .int .i64 0, .int .i64 0, .int .i64 0, .int .i64 0, .int .i64 0, .string ⟨#[]⟩] := bkV
      have oz : OwnLs (World.setCell w2 ⟨w1.heap.size, 8, none⟩ (.int .i64 (events + 1))) (w.heap.size + 1 + 1 + 1) A1 ls c1 := (OwnSt HN.out o2)
      have hXz : Ext (((w.alloc (.cells #[.int .i64 order, .int .i64 status, .int .i64 prior, .int .i64 cur, .int .i64 tax, .slice A n c, .int .i64 paid, .int .i64 refunded, .int .i64 events, .int .i64 refused, .int .i64 stamp, .string who] 25)).alloc (.cells #[.int .i64 ek, .int .i64 eo, .int .i64 ei, .int .i64 eq, .int .i64 ep, .int .i64 ec, .int .i64 et, .string ew, .int .i64 es, .string en] 28)).alloc (.cells #[.int .i64 0, .int .i64 0, .int .i64 0, .int .i64 0, .int .i64 0, .slice none 0 0, .int .i64 0, .int .i64 0, .int .i64 0, .int .i64 0, .int .i64 0, .string ⟨#[]⟩] 25)) (World.setCell w2 ⟨w1.heap.size, 8, none⟩ (.int .i64 (events + 1))) := exA
      have hz3 := HS.out (World.setCell w2 ⟨w1.heap.size, 8, none⟩ (.int .i64 (events + 1))) hXz
      clear p0 p1 p2 p3 p4 p5 p6 p7 p8 p9 p10 p11 y1 y2 y3 y4 y5 y6 y7 y8 y9 y10 y11 d6 d4 o2 Ho ho1
      have hX1 : w.heap.size + 1 + 1 + 1 ≤ w1.heap.size := hG
      generalize (World.setCell w2 ⟨w1.heap.size, 8, none⟩ (.int .i64 (events + 1))) = Wz at *
      generalize w1.heap.size = G at *
      clear hx1 hx2 K3 KJ
    rotate_left 1
    case' _ =>
      have e6 : Blk (World.setCell (World.setCell (World.setCell w2 ⟨w1.heap.size, 8, none⟩ (.int .i64 (events + 1))) ⟨w1.heap.size, 10, none⟩ (.int .i64 es)) ⟨w1.heap.size, 11, none⟩ (.string ew)) w1.heap.size 25 #[.int .i64 order, .int .i64 status, .int .i64 prior, .int .i64 cur, .int .i64 tax, .slice A1 n c1, .int .i64 paid, .int .i64 refunded, .int .i64 (events + 1), .int .i64 refused, .int .i64 sv, .string wv] := Blk_eq (BlkS (BlkS (BlkS d6))) (by rw [← Hsv.out, ← Hwv.out]; rfl)
      have e4 : Blk (World.setCell (World.setCell (World.setCell w2 ⟨w1.heap.size, 8, none⟩ (.int .i64 (events + 1))) ⟨w1.heap.size, 10, none⟩ (.int .i64 es)) ⟨w1.heap.size, 11, none⟩ (.string ew)) (w.heap.size + 1 + 1) 25 #[.int .i64 0, .int .i64 0, .int .i64 0, .int .i64 0, .int .i64 0, .slice none 0 0, .int .i64 0, .int .i64 0, .int .i64 0, .int .i64 0, .int .i64 0, .string ⟨#[]⟩] := bkV
      have oz : OwnLs (World.setCell (World.setCell (World.setCell w2 ⟨w1.heap.size, 8, none⟩ (.int .i64 (events + 1))) ⟨w1.heap.size, 10, none⟩ (.int .i64 es)) ⟨w1.heap.size, 11, none⟩ (.string ew)) (w.heap.size + 1 + 1 + 1) A1 ls c1 := (OwnSt HN.out (OwnSt HN.out (OwnSt HN.out o2)))
      have hXz : Ext (((w.alloc (.cells #[.int .i64 order, .int .i64 status, .int .i64 prior, .int .i64 cur, .int .i64 tax, .slice A n c, .int .i64 paid, .int .i64 refunded, .int .i64 events, .int .i64 refused, .int .i64 stamp, .string who] 25)).alloc (.cells #[.int .i64 ek, .int .i64 eo, .int .i64 ei, .int .i64 eq, .int .i64 ep, .int .i64 ec, .int .i64 et, .string ew, .int .i64 es, .string en] 28)).alloc (.cells #[.int .i64 0, .int .i64 0, .int .i64 0, .int .i64 0, .int .i64 0, .slice none 0 0, .int .i64 0, .int .i64 0, .int .i64 0, .int .i64 0, .int .i64 0, .string ⟨#[]⟩] 25)) (World.setCell (World.setCell (World.setCell w2 ⟨w1.heap.size, 8, none⟩ (.int .i64 (events + 1))) ⟨w1.heap.size, 10, none⟩ (.int .i64 es)) ⟨w1.heap.size, 11, none⟩ (.string ew)) := exA
      have hz3 := HS.out (World.setCell (World.setCell (World.setCell w2 ⟨w1.heap.size, 8, none⟩ (.int .i64 (events + 1))) ⟨w1.heap.size, 10, none⟩ (.int .i64 es)) ⟨w1.heap.size, 11, none⟩ (.string ew)) hXz
      clear p0 p1 p2 p3 p4 p5 p6 p7 p8 p9 p10 p11 y1 y2 y3 y4 y5 y6 y7 y8 y9 y10 y11 d6 d4 o2 Ho ho1
      have hX1 : w.heap.size + 1 + 1 + 1 ≤ w1.heap.size := hG
      generalize (World.setCell (World.setCell (World.setCell w2 ⟨w1.heap.size, 8, none⟩ (.int .i64 (events + 1))) ⟨w1.heap.size, 10, none⟩ (.int .i64 es)) ⟨w1.heap.size, 11, none⟩ (.string ew)) = Wz at *
      generalize w1.heap.size = G at *
      clear hx1 hx2 K3 KJ
    rotate_left 1
    case' _ =>
      have e6 : Blk (World.setCell (World.setCell w2 ⟨w1.heap.size, 8, none⟩ (.int .i64 (events + 1))) ⟨w1.heap.size, 10, none⟩ (.int .i64 es)) w1.heap.size 25 #[.int .i64 order, .int .i64 status, .int .i64 prior, .int .i64 cur, .int .i64 tax, .slice A1 n c1, .int .i64 paid, .int .i64 refunded, .int .i64 (events + 1), .int .i64 refused, .int .i64 sv, .string wv] := Blk_eq (BlkS (BlkS d6)) (by rw [← Hsv.out, ← Hwv.out]; rfl)
      have e4 : Blk (World.setCell (World.setCell w2 ⟨w1.heap.size, 8, none⟩ (.int .i64 (events + 1))) ⟨w1.heap.size, 10, none⟩ (.int .i64 es)) (w.heap.size + 1 + 1) 25 #[.int .i64 0, .int .i64 0, .int .i64 0, .int .i64 0, .int .i64 0, .slice none 0 0, .int .i64 0, .int .i64 0, .int .i64 0, .int .i64 0, .int .i64 0, .string ⟨#[]⟩] := bkV
      have oz : OwnLs (World.setCell (World.setCell w2 ⟨w1.heap.size, 8, none⟩ (.int .i64 (events + 1))) ⟨w1.heap.size, 10, none⟩ (.int .i64 es)) (w.heap.size + 1 + 1 + 1) A1 ls c1 := (OwnSt HN.out (OwnSt HN.out o2))
      have hXz : Ext (((w.alloc (.cells #[.int .i64 order, .int .i64 status, .int .i64 prior, .int .i64 cur, .int .i64 tax, .slice A n c, .int .i64 paid, .int .i64 refunded, .int .i64 events, .int .i64 refused, .int .i64 stamp, .string who] 25)).alloc (.cells #[.int .i64 ek, .int .i64 eo, .int .i64 ei, .int .i64 eq, .int .i64 ep, .int .i64 ec, .int .i64 et, .string ew, .int .i64 es, .string en] 28)).alloc (.cells #[.int .i64 0, .int .i64 0, .int .i64 0, .int .i64 0, .int .i64 0, .slice none 0 0, .int .i64 0, .int .i64 0, .int .i64 0, .int .i64 0, .int .i64 0, .string ⟨#[]⟩] 25)) (World.setCell (World.setCell w2 ⟨w1.heap.size, 8, none⟩ (.int .i64 (events + 1))) ⟨w1.heap.size, 10, none⟩ (.int .i64 es)) := exA
      have hz3 := HS.out (World.setCell (World.setCell w2 ⟨w1.heap.size, 8, none⟩ (.int .i64 (events + 1))) ⟨w1.heap.size, 10, none⟩ (.int .i64 es)) hXz
      clear p0 p1 p2 p3 p4 p5 p6 p7 p8 p9 p10 p11 y1 y2 y3 y4 y5 y6 y7 y8 y9 y10 y11 d6 d4 o2 Ho ho1
      have hX1 : w.heap.size + 1 + 1 + 1 ≤ w1.heap.size := hG
      generalize (World.setCell (World.setCell w2 ⟨w1.heap.size, 8, none⟩ (.int .i64 (events + 1))) ⟨w1.heap.size, 10, none⟩ (.int .i64 es)) = Wz at *
      generalize w1.heap.size = G at *
      clear hx1 hx2 K3 KJ
    rotate_left 1
    all_goals
      go_split_ands
      have p0 := e6.cell 0
      have p1 := e6.cell 1
      have p2 := e6.cell 2
      have p3 := e6.cell 3
      have p4 := e6.cell 4
      have p5 := e6.cell 5
      have p6 := e6.cell 6
      have p7 := e6.cell 7
      have p8 := e6.cell 8
      have p9 := e6.cell 9
      have p10 := e6.cell 10
      have p11 := e6.cell 11
      have y1 := e6.frozen 1
      have y2 := e6.frozen 2
      have y3 := e6.frozen 3
      have y4 := e6.frozen 4
      have y5 := e6.frozen 5
      have y6 := e6.frozen 6
      have y7 := e6.frozen 7
      have y8 := e6.frozen 8
      have y9 := e6.frozen 9
      have y10 := e6.frozen 10
      have y11 := e6.frozen 11
      have Ho := Lib.hid oz
      have hzz : w.heap.size + 1 + 1 + 1 ≤ Wz.heap.size := by have := hXz.size; simpa using this
      clear Ho p0 p1 p2 p3 p4 p5 p6 p7 p8 p9 p10 p11 y1 y2 y3 y4 y5 y6 y7 y8 y9 y10 y11
      obtain ⟨lb, _, rfl, hlbw, _⟩ := own_blk oz (by have := Hn.out; omega)
      have hglb : G ≠ lb := fun h => HN.out 0 0 (by rw [h]; rfl)
      have hLz := HLn.out Wz _ lb c1 oz
      have hc3 : Wz.cell? ⟨lb, P * 4 + 3, none⟩ = some (.int .i64 lsh) := hLz 3 _ rfl
      have hf3 : Wz.frozen? ⟨lb, P * 4 + 3, none⟩ = false := own_frozen_ oz (P * 4 + 3)
      have hsz3 : (((w.alloc (.cells #[.int .i64 order, .int .i64 status, .int .i64 prior, .int .i64 cur, .int .i64 tax, .slice A n c, .int .i64 paid, .int .i64 refunded, .int .i64 events, .int .i64 refused, .int .i64 stamp, .string who] 25)).alloc (.cells #[.int .i64 ek, .int .i64 eo, .int .i64 ei, .int .i64 eq, .int .i64 ep, .int .i64 ec, .int .i64 et, .string ew, .int .i64 es, .string en] 28)).alloc (.cells #[.int .i64 0, .int .i64 0, .int .i64 0, .int .i64 0, .int .i64 0, .slice none 0 0, .int .i64 0, .int .i64 0, .int .i64 0, .int .i64 0, .int .i64 0, .string ⟨#[]⟩] 25)).heap.size ≤ lb := by simpa using hlbw
      go_upto_region 27 with fail
      refine wp_region_held_drew (S := fun w' => Ext (((w.alloc (.cells #[.int .i64 order, .int .i64 status, .int .i64 prior, .int .i64 cur, .int .i64 tax, .slice A n c, .int .i64 paid, .int .i64 refunded, .int .i64 events, .int .i64 refused, .int .i64 stamp, .string who] 25)).alloc (.cells #[.int .i64 ek, .int .i64 eo, .int .i64 ei, .int .i64 eq, .int .i64 ep, .int .i64 ec, .int .i64 et, .string ew, .int .i64 es, .string en] 28)).alloc (.cells #[.int .i64 0, .int .i64 0, .int .i64 0, .int .i64 0, .int .i64 0, .slice none 0 0, .int .i64 0, .int .i64 0, .int .i64 0, .int .i64 0, .int .i64 0, .string ⟨#[]⟩] 25)) w' ∧ Blk w' G 25 #[.int .i64 order, .int .i64 status, .int .i64 prior, .int .i64 cur, .int .i64 tax, .slice (some ⟨lb, 0, none⟩) n c1, .int .i64 paid, .int .i64 refunded, .int .i64 (events + 1), .int .i64 refused, .int .i64 sv, .string wv]) (by kernel_rfl) ⟨ExtD hXz, BlkD e6⟩ (fun hS => ?_)
      refine takeD (some 92) (i := 0) (v := .pointer (some ⟨G, 5, none⟩)) rfl rfl (by kernel_rfl) (by kernel_rfl) (by kernel_rfl) (fun _ _ _ h => h) (Or.inl ⟨by kernel_rfl, fun w9 hSw => by go_simp⟩) hS ?_; (try simp only [Act.put, List.setIfInBounds_toArray, List.set_cons_zero, List.set_cons_succ])
      refine takeD (some 93) (i := 1) (v := .slice (some ⟨lb, 0, none⟩) n c1) rfl rfl (by kernel_rfl) (by kernel_rfl) (by kernel_rfl) (fun _ _ _ h => h) (Or.inl ⟨by kernel_rfl, fun w9 hSw => by have hc : w9.cell? ⟨G, 5, none⟩ = some (.slice (some ⟨lb, 0, none⟩) n c1) := hSw.2.cell 5; go_simp⟩) hS ?_; (try simp only [Act.put, List.setIfInBounds_toArray, List.set_cons_zero, List.set_cons_succ])
      refine takeD (some 94) (i := 2) (v := .agg #[.int .i64 order, .int .i64 status, .int .i64 prior, .int .i64 cur, .int .i64 tax, .slice A n c, .int .i64 paid, .int .i64 refunded, .int .i64 events, .int .i64 refused, .int .i64 stamp, .string who]) rfl rfl (by kernel_rfl) (by kernel_rfl) (by kernel_rfl) (fun _ _ _ h => h) (yields_row (by kernel_rfl) 25 (.tmp 2) rfl w.heap.size 25 #[.int .i64 order, .int .i64 status, .int .i64 prior, .int .i64 cur, .int .i64 tax, .slice A n c, .int .i64 paid, .int .i64 refunded, .int .i64 events, .int .i64 refused, .int .i64 stamp, .string who] 12 rfl (fun w9 hw => Ext.blk hw.1 (BlkA (BlkA (BlkN rfl)))) st_wide rfl) hS ?_; (try simp only [Act.put, List.setIfInBounds_toArray, List.set_cons_zero, List.set_cons_succ])
      refine takeD (some 95) (i := 3) (v := .pointer (some ⟨w.heap.size + 1, 2, none⟩)) rfl rfl (by kernel_rfl) (by kernel_rfl) (by kernel_rfl) (fun _ _ _ h => h) (Or.inl ⟨by kernel_rfl, fun w9 hSw => by go_simp⟩) hS ?_; (try simp only [Act.put, List.setIfInBounds_toArray, List.set_cons_zero, List.set_cons_succ])
      refine takeD (some 96) (i := 4) (v := .int .i64 ei) rfl rfl (by kernel_rfl) (by kernel_rfl) (by kernel_rfl) (fun _ _ _ h => h) (Or.inl ⟨by kernel_rfl, fun w9 hSw => by have hc : w9.cell? ⟨w.heap.size + 1, 2, none⟩ = some (.int .i64 ei) := (Ext.blk hSw.1 (BlkA (BlkN (by simp)))).cell 2; go_simp⟩) hS ?_; (try simp only [Act.put, List.setIfInBounds_toArray, List.set_cons_zero, List.set_cons_succ])
      refine takeD (some 101) (i := 9) (v := .pointer (some ⟨w.heap.size + 1, 3, none⟩)) rfl rfl (by kernel_rfl) (by kernel_rfl) (by kernel_rfl) (fun _ _ _ h => h) (Or.inl ⟨by kernel_rfl, fun w9 hSw => by go_simp⟩) hS ?_; (try simp only [Act.put, List.setIfInBounds_toArray, List.set_cons_zero, List.set_cons_succ])
      refine takeD (some 102) (i := 10) (v := .int .i64 eq) rfl rfl (by kernel_rfl) (by kernel_rfl) (by kernel_rfl) (fun _ _ _ h => h) (Or.inl ⟨by kernel_rfl, fun w9 hSw => by have hc : w9.cell? ⟨w.heap.size + 1, 3, none⟩ = some (.int .i64 eq) := (Ext.blk hSw.1 (BlkA (BlkN (by simp)))).cell 3; go_simp⟩) hS ?_; (try simp only [Act.put, List.setIfInBounds_toArray, List.set_cons_zero, List.set_cons_succ])
      refine wpAnyH_ready (rs := [5]) (by kernel_rfl) (by simp) (AllReadyH.cons rfl (fun K hK => ?_) AllReadyH.nil)
      (refine step_call rfl (some 97) rfl 45 _ Try.func45 (by kernel_rfl) (by kernel_rfl) _ _ rfl #[.agg #[.int .i64 order, .int .i64 status, .int .i64 prior, .int .i64 cur, .int .i64 tax, .slice A n c, .int .i64 paid, .int .i64 refunded, .int .i64 events, .int .i64 refused, .int .i64 stamp, .string who], .int .i64 ei] (by simp [Act.eval, Act.put]) _ (KA.out _ (hr.ext (Ext.tr (ExtA (ExtA (ExtA (Ext.rfl' w)))) hS.1))) ?_; intro w5 hx5; have hE : Ext Wz w5 := Ext.tr (ExtD (Ext.rfl' Wz)) hx5; refine hK.out _ _ ⟨Ext.tr hS.1 hx5, BlkE hS.2 hx5⟩ ?_; intro hS; clear hK hx5; (try simp only [Act.put, List.setIfInBounds_toArray, List.set_cons_zero, List.set_cons_succ]))
      have hc5 := Ext.cell hE hc3
      have hf5 := Ext.frz hE hc3 hf3
      refine takeD (some 98) (i := 6) (v := .pointer (some ⟨lb, P * 4, none⟩)) rfl rfl (by kernel_rfl) (by kernel_rfl) (by kernel_rfl) (fun _ _ _ h => h) (Or.inl ⟨by kernel_rfl, fun w9 hSw => by go_simp⟩) hS ?_; (try simp only [Act.put, List.setIfInBounds_toArray, List.set_cons_zero, List.set_cons_succ])
      refine takeD (some 99) (i := 7) (v := .pointer (some ⟨lb, P * 4 + 3, none⟩)) rfl rfl (by kernel_rfl) (by kernel_rfl) (by kernel_rfl) (fun _ _ _ h => h) (Or.inl ⟨by kernel_rfl, fun w9 hSw => by go_simp⟩) hS ?_; (try simp only [Act.put, List.setIfInBounds_toArray, List.set_cons_zero, List.set_cons_succ])
      refine wpAnyH_ready (rs := [8]) (by kernel_rfl) (by simp) (AllReadyH.cons rfl (fun K hK => ?_) AllReadyH.nil)
      (go_simp; refine hK.out _ _ hS ?_; intro hS; clear hK; (try simp only [Act.put, List.setIfInBounds_toArray, List.set_cons_zero, List.set_cons_succ]))
      refine takeD (some 103) (i := 11) (v := .int .i64 (lsh + eq)) rfl rfl (by kernel_rfl) (by kernel_rfl) (by kernel_rfl) (fun _ _ _ h => h) (Or.inl ⟨by kernel_rfl, fun w9 hSw => by go_simp⟩) hS ?_; (try simp only [Act.put, List.setIfInBounds_toArray, List.set_cons_zero, List.set_cons_succ])
      refine takeD (some 104) (i := 12) (v := .pointer (some ⟨lb, P * 4, none⟩)) rfl rfl (by kernel_rfl) (by kernel_rfl) (by kernel_rfl) (fun _ _ _ h => h) (Or.inl ⟨by kernel_rfl, fun w9 hSw => by go_simp⟩) hS ?_; (try simp only [Act.put, List.setIfInBounds_toArray, List.set_cons_zero, List.set_cons_succ])
      refine takeD (some 105) (i := 13) (v := .pointer (some ⟨lb, P * 4 + 3, none⟩)) rfl rfl (by kernel_rfl) (by kernel_rfl) (by kernel_rfl) (fun _ _ _ h => h) (Or.inl ⟨by kernel_rfl, fun w9 hSw => by go_simp⟩) hS ?_; (try simp only [Act.put, List.setIfInBounds_toArray, List.set_cons_zero, List.set_cons_succ])
      refine wpAnyH_ready (rs := [14]) (by kernel_rfl) (by simp) (AllReadyH.cons rfl (fun K hK => ?_) AllReadyH.nil)
      (go_simp; refine hK.out _ _ ⟨ExtS (by dsimp only; omega) hS.1, BlkF hglb hS.2⟩ ?_; intro hS; clear hK; (try simp only [Act.put, List.setIfInBounds_toArray, List.set_cons_zero, List.set_cons_succ]))
      refine wpAnyH_done (by kernel_rfl) ?_ _
      have oN := HSet.out w5 _ lb c1 (OwnLs.mono oz hE)
      have e6 := hS.2
      have e4 : Blk (w5.setCell ⟨lb, P * 4 + 3, none⟩ (.int .i64 (lsh + eq))) (w.heap.size + 1 + 1) 25 #[.int .i64 0, .int .i64 0, .int .i64 0, .int .i64 0, .int .i64 0, .slice none 0 0, .int .i64 0, .int .i64 0, .int .i64 0, .int .i64 0, .int .i64 0, .string ⟨#[]⟩] := BlkF (by dsimp only; omega) (BlkE e4 hE)
      have hXy : Ext w (w5.setCell ⟨lb, P * 4 + 3, none⟩ (.int .i64 (lsh + eq))) := Ext.tr (ExtA (ExtA (ExtA (Ext.rfl' w)))) hS.1
      clear hS oz hE hc5 hf5 hc3 hf3 hLz hsz3 hXz
      generalize (w5.setCell ⟨lb, P * 4 + 3, none⟩ (.int .i64 (lsh + eq))) = Wy at *
      have p0 := e6.cell 0
      have p1 := e6.cell 1
      have p2 := e6.cell 2
      have p3 := e6.cell 3
      have p4 := e6.cell 4
      have p5 := e6.cell 5
      have p6 := e6.cell 6
      have p7 := e6.cell 7
      have p8 := e6.cell 8
      have p9 := e6.cell 9
      have p10 := e6.cell 10
      have p11 := e6.cell 11
      go_wp2_with (first | (go_at_call 34; (with_reducible refine (KWh.out _ _ _ _ _ (oN.rd.ext exA)).mono ?_); rintro e w7 ⟨rfl, hx7⟩; have e6 := BlkE e6 hx7; have e4 := BlkE e4 hx7; have oN := OwnLs.mono oN hx7; have r0 := e6.cell 0; have r1 := e6.cell 1; have r2 := e6.cell 2; have r3 := e6.cell 3; have r4 := e6.cell 4; have r5 := e6.cell 5; have r6 := e6.cell 6; have r7 := e6.cell 7; have r8 := e6.cell 8; have r9 := e6.cell 9; have r10 := e6.cell 10; have r11 := e6.cell 11; have y1' := e6.frozen 1) | (with_reducible refine wpL_store_row rfl 25 (.tmp 4) (.tmp 154) rfl _ 25 _ _ rfl rfl (show Blk _ (w.heap.size + 1 + 1) 25 #[.int .i64 0, .int .i64 0, .int .i64 0, .int .i64 0, .int .i64 0, .slice none 0 0, .int .i64 0, .int .i64 0, .int .i64 0, .int .i64 0, .int .i64 0, .string ⟨#[]⟩] from bkV) ((st_size' _ _ _ _ _ _ _ _ _ _ _ _ _ _).trans (st_size' _ _ _ _ _ _ _ _ _ _ _ _ _ _).symm) (st_one' _ _ _ _ _ _ _ _ _ _ _ _ _ _) 12 st_wide (st_size' _ _ _ _ _ _ _ _ _ _ _ _ _ _) ?_))
      refine bodyPost_ret (res_row_t rfl _ _ 25 _ 12 _ rfl rfl (Blk.setRow_ (show Blk _ (w.heap.size + 1 + 1) 25 #[.int .i64 0, .int .i64 0, .int .i64 0, .int .i64 0, .int .i64 0, .slice none 0 0, .int .i64 0, .int .i64 0, .int .i64 0, .int .i64 0, .int .i64 0, .string ⟨#[]⟩] from bkV)) st_wide rfl) rfl ?_
      have HNT := own_apart oN e6
      have HN4T := own_apart oN e4
      exact ⟨some ⟨lb, 0, none⟩, c1, rfl, exA, own_less (OwnRw HN4T oN) (by omega)⟩
end Go.Proofs.Ytlpjhnecihhkfaa
