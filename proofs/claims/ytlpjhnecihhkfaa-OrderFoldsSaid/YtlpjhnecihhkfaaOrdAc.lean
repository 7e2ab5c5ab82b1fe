/-
  The walk of order.Apply: what is not refused.
-/
import Derived.Test.YtlpjhnecihhkfaaOrdAb
namespace Go.Proofs.Ytlpjhnecihhkfaa
open Go.RowKit
set_option linter.unusedVariables false
set_option linter.unusedSimpArgs false
theorem stc_size (s : St) (A : Option Addr) (c : Nat) : (stcells s A c).size = 12 := rfl
theorem stc_one (s : St) (A : Option Addr) (c : Nat) : ∀ v ∈ (stcells s A c).toList, v.oneCell' = true := st_one' _ _ _ _ _ _ _ _ _ _ _ _ _ _
theorem rule_at {s : St} {e : Ev} (hf : Fine s e) : ∃ F : FuncId, (e.kind = 1 ∧ F = 60 ∨ e.kind = 2 ∧ F = 61 ∨ e.kind = 3 ∧ F = 62 ∨ e.kind = 4 ∧ F = 63 ∨ e.kind = 5 ∧ F = 64 ∨ e.kind = 6 ∧ F = 65 ∨ e.kind = 7 ∧ F = 66 ∨ e.kind = 8 ∧ F = 67 ∨ e.kind = 9 ∧ F = 68 ∨ e.kind = 10 ∧ F = 69) ∧ RuleOf F s e := by
  have hk := hf.event.kind
  obtain h | h | h | h | h | h | h | h | h | h : e.kind = 1 ∨ e.kind = 2 ∨ e.kind = 3 ∨ e.kind = 4 ∨ e.kind = 5 ∨ e.kind = 6 ∨ e.kind = 7 ∨ e.kind = 8 ∨ e.kind = 9 ∨ e.kind = 10 := by omega
  · exact ⟨_, .inl ⟨h, rfl⟩, rule_1 hf h⟩
  · exact ⟨_, .inr (.inl ⟨h, rfl⟩), rule_2 hf h⟩
  · exact ⟨_, .inr (.inr (.inl ⟨h, rfl⟩)), rule_3 hf h⟩
  · exact ⟨_, .inr (.inr (.inr (.inl ⟨h, rfl⟩))), rule_4 hf h⟩
  · exact ⟨_, .inr (.inr (.inr (.inr (.inl ⟨h, rfl⟩)))), rule_5 hf h⟩
  · exact ⟨_, .inr (.inr (.inr (.inr (.inr (.inl ⟨h, rfl⟩))))), rule_6 hf h⟩
  · exact ⟨_, .inr (.inr (.inr (.inr (.inr (.inr (.inl ⟨h, rfl⟩)))))), rule_7 hf h⟩
  · exact ⟨_, .inr (.inr (.inr (.inr (.inr (.inr (.inr (.inl ⟨h, rfl⟩))))))), rule_8 hf h⟩
  · exact ⟨_, .inr (.inr (.inr (.inr (.inr (.inr (.inr (.inr (.inl ⟨h, rfl⟩)))))))), rule_9 hf h⟩
  · exact ⟨_, .inr (.inr (.inr (.inr (.inr (.inr (.inr (.inr (.inr (⟨h, rfl⟩))))))))), rule_10 hf h⟩
theorem ix_1 {k : Int} (h : k = 1) (W : World) : (Instr.index 69 (.agg ruleTab) (.int .i64 k)).run Try.prog W = .ok (.func (.func 60) #[] #[]) W := by
  rw [h]
  have hs : (IntKind.i64.wrap (1 : Int)) = 1 := by decide
  simp [Instr.index, run_underlying Try.underlying69, asIntOf, hs, ruleTab]
  simp [part, run_underlying Try.underlying68]
theorem ix_2 {k : Int} (h : k = 2) (W : World) : (Instr.index 69 (.agg ruleTab) (.int .i64 k)).run Try.prog W = .ok (.func (.func 61) #[] #[]) W := by
  rw [h]
  have hs : (IntKind.i64.wrap (2 : Int)) = 2 := by decide
  simp [Instr.index, run_underlying Try.underlying69, asIntOf, hs, ruleTab]
  simp [part, run_underlying Try.underlying68]
theorem ix_3 {k : Int} (h : k = 3) (W : World) : (Instr.index 69 (.agg ruleTab) (.int .i64 k)).run Try.prog W = .ok (.func (.func 62) #[] #[]) W := by
  rw [h]
  have hs : (IntKind.i64.wrap (3 : Int)) = 3 := by decide
  simp [Instr.index, run_underlying Try.underlying69, asIntOf, hs, ruleTab]
  simp [part, run_underlying Try.underlying68]
theorem ix_4 {k : Int} (h : k = 4) (W : World) : (Instr.index 69 (.agg ruleTab) (.int .i64 k)).run Try.prog W = .ok (.func (.func 63) #[] #[]) W := by
  rw [h]
  have hs : (IntKind.i64.wrap (4 : Int)) = 4 := by decide
  simp [Instr.index, run_underlying Try.underlying69, asIntOf, hs, ruleTab]
  simp [part, run_underlying Try.underlying68]
theorem ix_5 {k : Int} (h : k = 5) (W : World) : (Instr.index 69 (.agg ruleTab) (.int .i64 k)).run Try.prog W = .ok (.func (.func 64) #[] #[]) W := by
  rw [h]
  have hs : (IntKind.i64.wrap (5 : Int)) = 5 := by decide
  simp [Instr.index, run_underlying Try.underlying69, asIntOf, hs, ruleTab]
  simp [part, run_underlying Try.underlying68]
theorem ix_6 {k : Int} (h : k = 6) (W : World) : (Instr.index 69 (.agg ruleTab) (.int .i64 k)).run Try.prog W = .ok (.func (.func 65) #[] #[]) W := by
  rw [h]
  have hs : (IntKind.i64.wrap (6 : Int)) = 6 := by decide
  simp [Instr.index, run_underlying Try.underlying69, asIntOf, hs, ruleTab]
  simp [part, run_underlying Try.underlying68]
theorem ix_7 {k : Int} (h : k = 7) (W : World) : (Instr.index 69 (.agg ruleTab) (.int .i64 k)).run Try.prog W = .ok (.func (.func 66) #[] #[]) W := by
  rw [h]
  have hs : (IntKind.i64.wrap (7 : Int)) = 7 := by decide
  simp [Instr.index, run_underlying Try.underlying69, asIntOf, hs, ruleTab]
  simp [part, run_underlying Try.underlying68]
theorem ix_8 {k : Int} (h : k = 8) (W : World) : (Instr.index 69 (.agg ruleTab) (.int .i64 k)).run Try.prog W = .ok (.func (.func 67) #[] #[]) W := by
  rw [h]
  have hs : (IntKind.i64.wrap (8 : Int)) = 8 := by decide
  simp [Instr.index, run_underlying Try.underlying69, asIntOf, hs, ruleTab]
  simp [part, run_underlying Try.underlying68]
theorem ix_9 {k : Int} (h : k = 9) (W : World) : (Instr.index 69 (.agg ruleTab) (.int .i64 k)).run Try.prog W = .ok (.func (.func 68) #[] #[]) W := by
  rw [h]
  have hs : (IntKind.i64.wrap (9 : Int)) = 9 := by decide
  simp [Instr.index, run_underlying Try.underlying69, asIntOf, hs, ruleTab]
  simp [part, run_underlying Try.underlying68]
theorem ix_10 {k : Int} (h : k = 10) (W : World) : (Instr.index 69 (.agg ruleTab) (.int .i64 k)).run Try.prog W = .ok (.func (.func 69) #[] #[]) W := by
  rw [h]
  have hs : (IntKind.i64.wrap (10 : Int)) = 10 := by decide
  simp [Instr.index, run_underlying Try.underlying69, asIntOf, hs, ruleTab]
  simp [part, run_underlying Try.underlying68]
set_option maxRecDepth 100000 in
set_option maxHeartbeats 4000000 in
theorem apply_c0 (s : St) (e : Ev) (A : Option Addr) (c : Nat) (w : World) (hr : LsRd w A s.lines) (hn : s.lines.length ≤ 4398046510976) (hw1 : s.who.size ≤ 4611686018427387904) (hw2 : e.who.size ≤ 4611686018427387904) (hw3 : e.note.size ≤ 4611686018427387904) (hJ : judge s e = 0) (hwz : e.who.size = 0) :
    Calls Try.prog 27 #[.agg (stcells s A c), .agg (evcells e)] w (ApPost w (rule (bump s e) e) 0) := by
  have hf := fine_of hJ
  obtain ⟨F, hidx, hrl⟩ := rule_at hf
  have hev := hf.valid.events
  have KR := Lib.hid fun (A1 : Option Addr) (c1 g : Nat) (W0 W : World) (h1 : Ext W0 W) (h2 : W0.heap.size ≤ g) (h3 : Blk W g 25 (stcells (bump s e) A1 c1)) (h4 : OwnLs W W0.heap.size A1 s.lines c1) => hrl A1 c1 g W0 W h1 h2 h3 h4
  have KC := Lib.hid fun W (h : LsRd W A s.lines) => clone_any A s.lines c W h hn
  have KJ := Lib.hid fun W (h : LsRd W A s.lines) => judge_any s e A c W h (by omega) hw1 hw2 hw3
  rw [hJ] at KJ
  clear hn hw1 hw2 hw3 hf hrl hJ
  generalize hs2 : rule (bump s e) e = s2 at *
  clear hs2
  obtain ⟨order, status, prior, cur, tax, ls, paid, refunded, events, refused, stamp, who⟩ := s
  obtain ⟨ek, eo, ei, eq, ep, ec, et, ew, es, en⟩ := e
  unfold NewLs at KC
  unfold bump at KR
  unfold stcells evcells at *
  unfold ApPost
  dsimp only at *
  have Hnn : Hid (∃ n, n = ls.length) := Lib.hid ⟨_, rfl⟩
  obtain ⟨n, hnn⟩ := Hnn.out
  rw [← hnn] at KC KJ KR ⊢
  clear hnn Hnn
  have hv1 : IntKind.i64.wrap (events + 1) = events + 1 := by rw [IntKind.wrap_i64]; omega
  have hmax : (if stamp < es then es else stamp) = max stamp es := by split <;> omega
  rw [hmax] at KR
  clear hmax
  have HS := Lib.hid (fun w' (h : Ext (((w.alloc (.cells #[.int .i64 order, .int .i64 status, .int .i64 prior, .int .i64 cur, .int .i64 tax, .slice A n c, .int .i64 paid, .int .i64 refunded, .int .i64 events, .int .i64 refused, .int .i64 stamp, .string who] 25)).alloc (.cells #[.int .i64 ek, .int .i64 eo, .int .i64 ei, .int .i64 eq, .int .i64 ep, .int .i64 ec, .int .i64 et, .string ew, .int .i64 es, .string en] 28)).alloc (.cells #[.int .i64 0, .int .i64 0, .int .i64 0, .int .i64 0, .int .i64 0, .slice none 0 0, .int .i64 0, .int .i64 0, .int .i64 0, .int .i64 0, .int .i64 0, .string ⟨#[]⟩] 25)) w') => (⟨h, (Ext.blk h (BlkA (BlkN (by simp)))).cell 0, (Ext.blk h (BlkA (BlkN (by simp)))).cell 1, (Ext.blk h (BlkA (BlkN (by simp)))).cell 2, (Ext.blk h (BlkA (BlkN (by simp)))).cell 3, (Ext.blk h (BlkA (BlkN (by simp)))).cell 4, (Ext.blk h (BlkA (BlkN (by simp)))).cell 5, (Ext.blk h (BlkA (BlkN (by simp)))).cell 6, (Ext.blk h (BlkA (BlkN (by simp)))).cell 7, (Ext.blk h (BlkA (BlkN (by simp)))).cell 8, (Ext.blk h (BlkA (BlkN (by simp)))).cell 9⟩ : (fun w' : World => Ext (((w.alloc (.cells #[.int .i64 order, .int .i64 status, .int .i64 prior, .int .i64 cur, .int .i64 tax, .slice A n c, .int .i64 paid, .int .i64 refunded, .int .i64 events, .int .i64 refused, .int .i64 stamp, .string who] 25)).alloc (.cells #[.int .i64 ek, .int .i64 eo, .int .i64 ei, .int .i64 eq, .int .i64 ep, .int .i64 ec, .int .i64 et, .string ew, .int .i64 es, .string en] 28)).alloc (.cells #[.int .i64 0, .int .i64 0, .int .i64 0, .int .i64 0, .int .i64 0, .slice none 0 0, .int .i64 0, .int .i64 0, .int .i64 0, .int .i64 0, .int .i64 0, .string ⟨#[]⟩] 25)) w' ∧ w'.cell? ⟨w.heap.size + 1, 0, none⟩ = some (.int .i64 ek) ∧ w'.cell? ⟨w.heap.size + 1, 1, none⟩ = some (.int .i64 eo) ∧ w'.cell? ⟨w.heap.size + 1, 2, none⟩ = some (.int .i64 ei) ∧ w'.cell? ⟨w.heap.size + 1, 3, none⟩ = some (.int .i64 eq) ∧ w'.cell? ⟨w.heap.size + 1, 4, none⟩ = some (.int .i64 ep) ∧ w'.cell? ⟨w.heap.size + 1, 5, none⟩ = some (.int .i64 ec) ∧ w'.cell? ⟨w.heap.size + 1, 6, none⟩ = some (.int .i64 et) ∧ w'.cell? ⟨w.heap.size + 1, 7, none⟩ = some (.string ew) ∧ w'.cell? ⟨w.heap.size + 1, 8, none⟩ = some (.int .i64 es) ∧ w'.cell? ⟨w.heap.size + 1, 9, none⟩ = some (.string en)) w'))
  have hWs : (((w.alloc (.cells #[.int .i64 order, .int .i64 status, .int .i64 prior, .int .i64 cur, .int .i64 tax, .slice A n c, .int .i64 paid, .int .i64 refunded, .int .i64 events, .int .i64 refused, .int .i64 stamp, .string who] 25)).alloc (.cells #[.int .i64 ek, .int .i64 eo, .int .i64 ei, .int .i64 eq, .int .i64 ep, .int .i64 ec, .int .i64 et, .string ew, .int .i64 es, .string en] 28)).alloc (.cells #[.int .i64 0, .int .i64 0, .int .i64 0, .int .i64 0, .int .i64 0, .slice none 0 0, .int .i64 0, .int .i64 0, .int .i64 0, .int .i64 0, .int .i64 0, .string ⟨#[]⟩] 25)).heap.size = w.heap.size + 1 + 1 + 1 := by simp
  have KR2 := Lib.hid fun A1 c1 W (h1 : Ext (((w.alloc (.cells #[.int .i64 order, .int .i64 status, .int .i64 prior, .int .i64 cur, .int .i64 tax, .slice A n c, .int .i64 paid, .int .i64 refunded, .int .i64 events, .int .i64 refused, .int .i64 stamp, .string who] 25)).alloc (.cells #[.int .i64 ek, .int .i64 eo, .int .i64 ei, .int .i64 eq, .int .i64 ep, .int .i64 ec, .int .i64 et, .string ew, .int .i64 es, .string en] 28)).alloc (.cells #[.int .i64 0, .int .i64 0, .int .i64 0, .int .i64 0, .int .i64 0, .slice none 0 0, .int .i64 0, .int .i64 0, .int .i64 0, .int .i64 0, .int .i64 0, .string ⟨#[]⟩] 25)) W) h3 (h4 : OwnLs W (w.heap.size + 1 + 1 + 1) A1 ls c1) => KR.out A1 c1 (w.heap.size + 1 + 1 + 1) (((w.alloc (.cells #[.int .i64 order, .int .i64 status, .int .i64 prior, .int .i64 cur, .int .i64 tax, .slice A n c, .int .i64 paid, .int .i64 refunded, .int .i64 events, .int .i64 refused, .int .i64 stamp, .string who] 25)).alloc (.cells #[.int .i64 ek, .int .i64 eo, .int .i64 ei, .int .i64 eq, .int .i64 ep, .int .i64 ec, .int .i64 et, .string ew, .int .i64 es, .string en] 28)).alloc (.cells #[.int .i64 0, .int .i64 0, .int .i64 0, .int .i64 0, .int .i64 0, .slice none 0 0, .int .i64 0, .int .i64 0, .int .i64 0, .int .i64 0, .int .i64 0, .string ⟨#[]⟩] 25)) W h1 (Nat.le_of_eq hWs) h3 (by rw [hWs]; exact h4)
  clear KR
  have hra := Lib.hid rules_any
  rw [if_pos hwz] at KR2
  have hwt : ew.toList.isEmpty = true := by rw [who_empty]; simpa using hwz
  go_enter Try.func27, Try.ntmps27
  go_wp2_with (first | (go_at_call 47; (with_reducible refine (KC.out _ (hr.ext exA)).mono ?_); rintro e w1 ⟨A1, c1, rfl, hx1, ho1⟩; have b1 : Blk w1 w.heap.size 25 #[.int .i64 order, .int .i64 status, .int .i64 prior, .int .i64 cur, .int .i64 tax, .slice A n c, .int .i64 paid, .int .i64 refunded, .int .i64 events, .int .i64 refused, .int .i64 stamp, .string who] := bkV; have b2 : Blk w1 (w.heap.size + 1) 28 #[.int .i64 ek, .int .i64 eo, .int .i64 ei, .int .i64 eq, .int .i64 ep, .int .i64 ec, .int .i64 et, .string ew, .int .i64 es, .string en] := bkV; have b3 : Blk w1 (w.heap.size + 1 + 1) 25 #[.int .i64 0, .int .i64 0, .int .i64 0, .int .i64 0, .int .i64 0, .slice none 0 0, .int .i64 0, .int .i64 0, .int .i64 0, .int .i64 0, .int .i64 0, .string ⟨#[]⟩] := bkV; have b4 : Blk w1 (w.heap.size + 1 + 1 + 1) 25 #[.int .i64 order, .int .i64 status, .int .i64 prior, .int .i64 cur, .int .i64 tax, .slice A n c, .int .i64 paid, .int .i64 refunded, .int .i64 events, .int .i64 refused, .int .i64 stamp, .string who] := bkV; (have a0 : World.cell? w1 ⟨w.heap.size, 0, none⟩ = some (.int .i64 order) := Blk.cell b1 0; have a1 : World.cell? w1 ⟨w.heap.size, 1, none⟩ = some (.int .i64 status) := Blk.cell b1 1; have a2 : World.cell? w1 ⟨w.heap.size, 2, none⟩ = some (.int .i64 prior) := Blk.cell b1 2; have a3 : World.cell? w1 ⟨w.heap.size, 3, none⟩ = some (.int .i64 cur) := Blk.cell b1 3; have a4 : World.cell? w1 ⟨w.heap.size, 4, none⟩ = some (.int .i64 tax) := Blk.cell b1 4; have a5 : World.cell? w1 ⟨w.heap.size, 5, none⟩ = some _ := Blk.cell b1 5; have a6 : World.cell? w1 ⟨w.heap.size, 6, none⟩ = some (.int .i64 paid) := Blk.cell b1 6; have a7 : World.cell? w1 ⟨w.heap.size, 7, none⟩ = some (.int .i64 refunded) := Blk.cell b1 7; have a8 : World.cell? w1 ⟨w.heap.size, 8, none⟩ = some (.int .i64 events) := Blk.cell b1 8; have a9 : World.cell? w1 ⟨w.heap.size, 9, none⟩ = some (.int .i64 refused) := Blk.cell b1 9; have a10 : World.cell? w1 ⟨w.heap.size, 10, none⟩ = some (.int .i64 stamp) := Blk.cell b1 10; have a11 : World.cell? w1 ⟨w.heap.size, 11, none⟩ = some (.string who) := Blk.cell b1 11); (have v0 : World.cell? w1 ⟨w.heap.size + 1, 0, none⟩ = some (.int .i64 ek) := Blk.cell b2 0; have v1 : World.cell? w1 ⟨w.heap.size + 1, 1, none⟩ = some (.int .i64 eo) := Blk.cell b2 1; have v2 : World.cell? w1 ⟨w.heap.size + 1, 2, none⟩ = some (.int .i64 ei) := Blk.cell b2 2; have v3 : World.cell? w1 ⟨w.heap.size + 1, 3, none⟩ = some (.int .i64 eq) := Blk.cell b2 3; have v4 : World.cell? w1 ⟨w.heap.size + 1, 4, none⟩ = some (.int .i64 ep) := Blk.cell b2 4; have v5 : World.cell? w1 ⟨w.heap.size + 1, 5, none⟩ = some (.int .i64 ec) := Blk.cell b2 5; have v6 : World.cell? w1 ⟨w.heap.size + 1, 6, none⟩ = some (.int .i64 et) := Blk.cell b2 6; have v7 : World.cell? w1 ⟨w.heap.size + 1, 7, none⟩ = some (.string ew) := Blk.cell b2 7; have v8 : World.cell? w1 ⟨w.heap.size + 1, 8, none⟩ = some (.int .i64 es) := Blk.cell b2 8; have v9 : World.cell? w1 ⟨w.heap.size + 1, 9, none⟩ = some (.string en) := Blk.cell b2 9); have z4 := b4.cell 5; have z5 := b4.frozen 5; have o1 : OwnLs w1 (w.heap.size + 1 + 1 + 1) A1 ls c1 := own_less ho1 (by (first | omega | (dsimp only; omega) | (simp; done) | (simp; omega)))) | ((go_at_call 18; (with_reducible refine (KJ.out _ (hr.ext exA)).mono ?_); rintro e w2 ⟨rfl, hx2⟩; have d2 : Blk w2 (w.heap.size + 1) 28 #[.int .i64 ek, .int .i64 eo, .int .i64 ei, .int .i64 eq, .int .i64 ep, .int .i64 ec, .int .i64 et, .string ew, .int .i64 es, .string en] := bkV; have d3 : Blk w2 (w.heap.size + 1 + 1) 25 #[.int .i64 0, .int .i64 0, .int .i64 0, .int .i64 0, .int .i64 0, .slice none 0 0, .int .i64 0, .int .i64 0, .int .i64 0, .int .i64 0, .int .i64 0, .string ⟨#[]⟩] := bkV; have d4 : Blk w2 (w.heap.size + 1 + 1 + 1) 25 #[.int .i64 order, .int .i64 status, .int .i64 prior, .int .i64 cur, .int .i64 tax, .slice A1 n c1, .int .i64 paid, .int .i64 refunded, .int .i64 events, .int .i64 refused, .int .i64 stamp, .string who] := Blk_eq (BlkE (BlkS b4) hx2) rfl; have HN1 := Lib.hid (own_apart o1 b4); have o2 : OwnLs w2 (w.heap.size + 1 + 1 + 1) A1 ls c1 := OwnLs.mono (OwnSt HN1.out o1) hx2; (have p0 : World.cell? w2 ⟨w.heap.size + 1 + 1 + 1, 0, none⟩ = some (.int .i64 order) := Blk.cell d4 0; have p1 : World.cell? w2 ⟨w.heap.size + 1 + 1 + 1, 1, none⟩ = some (.int .i64 status) := Blk.cell d4 1; have p2 : World.cell? w2 ⟨w.heap.size + 1 + 1 + 1, 2, none⟩ = some (.int .i64 prior) := Blk.cell d4 2; have p3 : World.cell? w2 ⟨w.heap.size + 1 + 1 + 1, 3, none⟩ = some (.int .i64 cur) := Blk.cell d4 3; have p4 : World.cell? w2 ⟨w.heap.size + 1 + 1 + 1, 4, none⟩ = some (.int .i64 tax) := Blk.cell d4 4; have p5 : World.cell? w2 ⟨w.heap.size + 1 + 1 + 1, 5, none⟩ = some _ := Blk.cell d4 5; have p6 : World.cell? w2 ⟨w.heap.size + 1 + 1 + 1, 6, none⟩ = some (.int .i64 paid) := Blk.cell d4 6; have p7 : World.cell? w2 ⟨w.heap.size + 1 + 1 + 1, 7, none⟩ = some (.int .i64 refunded) := Blk.cell d4 7; have p8 : World.cell? w2 ⟨w.heap.size + 1 + 1 + 1, 8, none⟩ = some (.int .i64 events) := Blk.cell d4 8; have p9 : World.cell? w2 ⟨w.heap.size + 1 + 1 + 1, 9, none⟩ = some (.int .i64 refused) := Blk.cell d4 9; have p10 : World.cell? w2 ⟨w.heap.size + 1 + 1 + 1, 10, none⟩ = some (.int .i64 stamp) := Blk.cell d4 10; have p11 : World.cell? w2 ⟨w.heap.size + 1 + 1 + 1, 11, none⟩ = some (.string who) := Blk.cell d4 11)); have y8 := d4.frozen 8; have y10 := d4.frozen 10; have y11 := d4.frozen 11; (have v0 : World.cell? w2 ⟨w.heap.size + 1, 0, none⟩ = some (.int .i64 ek) := Blk.cell d2 0; have v1 : World.cell? w2 ⟨w.heap.size + 1, 1, none⟩ = some (.int .i64 eo) := Blk.cell d2 1; have v2 : World.cell? w2 ⟨w.heap.size + 1, 2, none⟩ = some (.int .i64 ei) := Blk.cell d2 2; have v3 : World.cell? w2 ⟨w.heap.size + 1, 3, none⟩ = some (.int .i64 eq) := Blk.cell d2 3; have v4 : World.cell? w2 ⟨w.heap.size + 1, 4, none⟩ = some (.int .i64 ep) := Blk.cell d2 4; have v5 : World.cell? w2 ⟨w.heap.size + 1, 5, none⟩ = some (.int .i64 ec) := Blk.cell d2 5; have v6 : World.cell? w2 ⟨w.heap.size + 1, 6, none⟩ = some (.int .i64 et) := Blk.cell d2 6; have v7 : World.cell? w2 ⟨w.heap.size + 1, 7, none⟩ = some (.string ew) := Blk.cell d2 7; have v8 : World.cell? w2 ⟨w.heap.size + 1, 8, none⟩ = some (.int .i64 es) := Blk.cell d2 8; have v9 : World.cell? w2 ⟨w.heap.size + 1, 9, none⟩ = some (.string en) := Blk.cell d2 9)))
  have e4 : Blk ((w2.setCell ⟨w.heap.size + 1 + 1 + 1, 8, none⟩ (.int .i64 (events + 1))).setCell ⟨w.heap.size + 1 + 1 + 1, 10, none⟩ (.int .i64 (max stamp es))) (w.heap.size + 1 + 1 + 1) 25 #[.int .i64 order, .int .i64 status, .int .i64 prior, .int .i64 cur, .int .i64 tax, .slice A1 n c1, .int .i64 paid, .int .i64 refunded, .int .i64 (events + 1), .int .i64 refused, .int .i64 (max stamp es), .string who] := Blk_eq (BlkS (BlkS d4)) rfl
  have hap4 := own_apart o2 d4
  have o4 := OwnSt (g := w.heap.size + 1 + 1 + 1) (i := 10) (u := .int .i64 (max stamp es)) hap4 (OwnSt (i := 8) (u := .int .i64 (events + 1)) hap4 o2)
  have hXz : Ext (((w.alloc (.cells #[.int .i64 order, .int .i64 status, .int .i64 prior, .int .i64 cur, .int .i64 tax, .slice A n c, .int .i64 paid, .int .i64 refunded, .int .i64 events, .int .i64 refused, .int .i64 stamp, .string who] 25)).alloc (.cells #[.int .i64 ek, .int .i64 eo, .int .i64 ei, .int .i64 eq, .int .i64 ep, .int .i64 ec, .int .i64 et, .string ew, .int .i64 es, .string en] 28)).alloc (.cells #[.int .i64 0, .int .i64 0, .int .i64 0, .int .i64 0, .int .i64 0, .slice none 0 0, .int .i64 0, .int .i64 0, .int .i64 0, .int .i64 0, .int .i64 0, .string ⟨#[]⟩] 25)) ((w2.setCell ⟨w.heap.size + 1 + 1 + 1, 8, none⟩ (.int .i64 (events + 1))).setCell ⟨w.heap.size + 1 + 1 + 1, 10, none⟩ (.int .i64 (max stamp es))) := exA
  clear a0 a1 a2 a3 a4 a5 a6 a7 a8 a9 a10 a11 v0 v1 v2 v3 v4 v5 v6 v7 v8 v9 p0 p1 p2 p3 p4 p5 p6 p7 p8 p9 p10 p11 y8 y10 y11 z4 z5 KC KJ b1 b2 b3 b4 ho1 hr hev hwt hwz hv1 hap4 HN1 o1 hx1
  generalize ((w2.setCell ⟨w.heap.size + 1 + 1 + 1, 8, none⟩ (.int .i64 (events + 1))).setCell ⟨w.heap.size + 1 + 1 + 1, 10, none⟩ (.int .i64 (max stamp es))) = Wz at hXz e4 o4 ⊢
  clear d2 d3 d4 o2 hx2
  rcases hidx with ⟨hk1, rfl⟩ | ⟨hk1, rfl⟩ | ⟨hk1, rfl⟩ | ⟨hk1, rfl⟩ | ⟨hk1, rfl⟩ | ⟨hk1, rfl⟩ | ⟨hk1, rfl⟩ | ⟨hk1, rfl⟩ | ⟨hk1, rfl⟩ | ⟨hk1, rfl⟩
  all_goals
    have hix := fun W => (by first | exact ix_1 hk1 W | exact ix_2 hk1 W | exact ix_3 hk1 W | exact ix_4 hk1 W | exact ix_5 hk1 W | exact ix_6 hk1 W | exact ix_7 hk1 W | exact ix_8 hk1 W | exact ix_9 hk1 W | exact ix_10 hk1 W : (Instr.index 69 (.agg ruleTab) (.int .i64 ek)).run Try.prog W = _)
    clear hk1
    go_region_held3 (fun w' : World => Ext (((w.alloc (.cells #[.int .i64 order, .int .i64 status, .int .i64 prior, .int .i64 cur, .int .i64 tax, .slice A n c, .int .i64 paid, .int .i64 refunded, .int .i64 events, .int .i64 refused, .int .i64 stamp, .string who] 25)).alloc (.cells #[.int .i64 ek, .int .i64 eo, .int .i64 ei, .int .i64 eq, .int .i64 ep, .int .i64 ec, .int .i64 et, .string ew, .int .i64 es, .string en] 28)).alloc (.cells #[.int .i64 0, .int .i64 0, .int .i64 0, .int .i64 0, .int .i64 0, .slice none 0 0, .int .i64 0, .int .i64 0, .int .i64 0, .int .i64 0, .int .i64 0, .string ⟨#[]⟩] 25)) w' ∧ w'.cell? ⟨w.heap.size + 1, 0, none⟩ = some (.int .i64 ek) ∧ w'.cell? ⟨w.heap.size + 1, 1, none⟩ = some (.int .i64 eo) ∧ w'.cell? ⟨w.heap.size + 1, 2, none⟩ = some (.int .i64 ei) ∧ w'.cell? ⟨w.heap.size + 1, 3, none⟩ = some (.int .i64 eq) ∧ w'.cell? ⟨w.heap.size + 1, 4, none⟩ = some (.int .i64 ep) ∧ w'.cell? ⟨w.heap.size + 1, 5, none⟩ = some (.int .i64 ec) ∧ w'.cell? ⟨w.heap.size + 1, 6, none⟩ = some (.int .i64 et) ∧ w'.cell? ⟨w.heap.size + 1, 7, none⟩ = some (.string ew) ∧ w'.cell? ⟨w.heap.size + 1, 8, none⟩ = some (.int .i64 es) ∧ w'.cell? ⟨w.heap.size + 1, 9, none⟩ = some (.string en)) (exact HS.out _ exA) (first
      | (go_at_call 48; (with_reducible refine (hra.out _).mono ?_); rintro e w3 ⟨rfl, hx3⟩; have q4 := BlkE (BlkD e4) hx3; have oq := OwnLs.mono (OwnD o4) hx3)
      | ((with_reducible refine (KR2.out _ _ _ exA q4 oq).mono ?_); rintro e w4 ⟨A2, c2, rfl, hX4, hB4, hO4⟩; have hB3 : Blk w4 (w.heap.size + 1 + 1) 25 #[.int .i64 0, .int .i64 0, .int .i64 0, .int .i64 0, .int .i64 0, .slice none 0 0, .int .i64 0, .int .i64 0, .int .i64 0, .int .i64 0, .int .i64 0, .string ⟨#[]⟩] := Ext.blk hX4 (BlkN (by simp))))
    go_wp2_with (first
      | (with_reducible refine wpL_load_row rfl 25 (.tmp 6) rfl _ 25 _ 12 rfl hB4 st_wide (stc_size _ _ _) ?_)
      | (with_reducible refine wpL_store_row rfl 25 (.tmp 4) (.tmp 54) rfl _ 25 _ _ rfl rfl hB3 ((stc_size _ _ _).trans (st_size' _ _ _ _ _ _ _ _ _ _ _ _ _ _).symm) (stc_one _ _ _) 12 st_wide (stc_size _ _ _) ?_))
    refine bodyPost_ret (res_row_t rfl _ _ 25 _ 12 _ rfl rfl (Blk.setRow_ hB3) st_wide rfl) rfl ?_
    exact ⟨A2, c2, rfl, exA, own_less (OwnRw (own_apart hO4 hB3) hO4) (by rw [hWs]; omega)⟩
end Go.Proofs.Ytlpjhnecihhkfaa
