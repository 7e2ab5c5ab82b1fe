/-
  The walk of order.Apply: what is refused.
-/
import Derived.Test.YtlpjhnecihhkfaaOrdAa
import Derived.Test.YtlpjhnecihhkfaaSteps
namespace Go.Proofs.Ytlpjhnecihhkfaa
open Go.RowKit
set_option linter.unusedVariables false
set_option linter.unusedSimpArgs false
theorem own_less {w : World} {b1 b2 c : Nat} {A : Option Addr} {ls : List Ln} (h : OwnLs w b1 A ls c) (hb : b2 ≤ b1) : OwnLs w b2 A ls c := by
  refine ⟨h.1, ?_⟩
  rcases h.2 with h1 | ⟨g, cap, cur, h1, h2, h3⟩
  · exact .inl h1
  · exact .inr ⟨g, cap, cur, h1, Nat.le_trans hb h2, h3⟩
theorem st_size' (o s p u t : Int) (A : Option Addr) (n c : Nat) (pd rf ev rd sm : Int) (who : ByteArray) : (#[.int .i64 o, .int .i64 s, .int .i64 p, .int .i64 u, .int .i64 t, .slice A n c, .int .i64 pd, .int .i64 rf, .int .i64 ev, .int .i64 rd, .int .i64 sm, .string who] : Array Value).size = 12 := rfl
theorem st_one' (o s p u t : Int) (A : Option Addr) (n c : Nat) (pd rf ev rd sm : Int) (who : ByteArray) : ∀ v ∈ (#[.int .i64 o, .int .i64 s, .int .i64 p, .int .i64 u, .int .i64 t, .slice A n c, .int .i64 pd, .int .i64 rf, .int .i64 ev, .int .i64 rd, .int .i64 sm, .string who] : Array Value).toList, v.oneCell' = true := by
  intro v hv; simp at hv; rcases hv with rfl | rfl | rfl | rfl | rfl | rfl | rfl | rfl | rfl | rfl | rfl | rfl <;> rfl
theorem res_row_t {w : World} {fn : Func} {p u : Tmp} {ty : TypeId} (h : fn.results = #[.cell p ty, .tmp u]) (tmps : Array Value) (g : Nat) (t : TypeId) (cs : Array Value) (n : Nat) (x : Value)
    (hp : tmps.getD p undef = .pointer (some ⟨g, 0, none⟩)) (hu : tmps.getD u undef = x) (hb : Blk w g t cs) (hw : Wide Try.prog ty n) (hn : cs.size = n) : (results fn tmps).run Try.prog w = .ok (.tuple #[.agg cs, x]) w := by
  have hp' : tmps[p]?.getD undef = .pointer (some ⟨g, 0, none⟩) := by simpa using hp
  have hu' : tmps[u]?.getD undef = x := by simpa using hu
  simp [results, h, hp', hu', asAddr, run_loadVar_blk hb hw hn]
theorem GrRow {a w : World} {g : Nat} {ds : Array Value} (h : a.grownBy w (some g)) : a.grownBy (w.setRow g ds) (some g) :=
  ⟨h.os, h.tape, h.output, by simpa [World.setRow] using h.size, fun k hk hne => by
    have := h.block k hk hne
    simp only [World.setRow, Array.getElem?_modify]
    rw [if_neg (by intro hc; exact hne (by rw [hc]))]
    exact this⟩
theorem OwnRw {w : World} {base g c : Nat} {ds : Array Value} {A : Option Addr} {ls : List Ln} (hne : NotOwn A g) (h : OwnLs w base A ls c) : OwnLs (w.setRow g ds) base A ls c :=
  World.ownsRow.kept h (GrRow (World.grownBy.refl w (some g))) (.inr (hne _ _))
/-- What Apply answers. -/
def ApPost (w : World) (s2 : St) (why : Nat) (e' : Ending) (w' : World) : Prop :=
  ∃ A' c', e' = .returned (.tuple #[.agg (stcells s2 A' c'), .int .i64 (why : Nat)]) ∧ Ext w w' ∧ OwnLs w' w.heap.size A' s2.lines c'
set_option maxRecDepth 100000 in
set_option maxHeartbeats 4000000 in
theorem apply_a (s : St) (e : Ev) (A : Option Addr) (c : Nat) (w : World) (hr : LsRd w A s.lines) (hn : s.lines.length ≤ 4398046510976) (hw1 : s.who.size ≤ 4611686018427387904) (hw2 : e.who.size ≤ 4611686018427387904) (hw3 : e.note.size ≤ 4611686018427387904) (hJ : judge s e = 1 ∨ judge s e = 2) :
    Calls Try.prog 27 #[.agg (stcells s A c), .agg (evcells e)] w (ApPost w s (judge s e)) := by
  have KC := Lib.hid fun W (h : LsRd W A s.lines) => clone_any A s.lines c W h hn
  have KJ := Lib.hid fun W (h : LsRd W A s.lines) => judge_any s e A c W h (by omega) hw1 hw2 hw3
  clear hn hw1 hw2 hw3
  generalize judge s e = J at *
  obtain ⟨order, status, prior, cur, tax, ls, paid, refunded, events, refused, stamp, who⟩ := s
  obtain ⟨ek, eo, ei, eq, ep, ec, et, ew, es, en⟩ := e
  unfold NewLs at KC
  unfold stcells evcells at *
  unfold ApPost stcells
  dsimp only at *
  have Hnn : Hid (∃ n, n = ls.length) := Lib.hid ⟨_, rfl⟩
  obtain ⟨n, hnn⟩ := Hnn.out
  rw [← hnn] at KC KJ ⊢
  clear hnn Hnn
  rcases hJ with rfl | rfl
  all_goals
    go_enter Try.func27, Try.ntmps27
    go_wp2_with (first | (go_at_call 47; (with_reducible refine (KC.out _ (hr.ext exA)).mono ?_); rintro e w1 ⟨A1, c1, rfl, hx1, ho1⟩; have b1 : Blk w1 w.heap.size 25 #[.int .i64 order, .int .i64 status, .int .i64 prior, .int .i64 cur, .int .i64 tax, .slice A n c, .int .i64 paid, .int .i64 refunded, .int .i64 events, .int .i64 refused, .int .i64 stamp, .string who] := bkV; have b2 : Blk w1 (w.heap.size + 1) 28 #[.int .i64 ek, .int .i64 eo, .int .i64 ei, .int .i64 eq, .int .i64 ep, .int .i64 ec, .int .i64 et, .string ew, .int .i64 es, .string en] := bkV; have b3 : Blk w1 (w.heap.size + 1 + 1) 25 #[.int .i64 0, .int .i64 0, .int .i64 0, .int .i64 0, .int .i64 0, .slice none 0 0, .int .i64 0, .int .i64 0, .int .i64 0, .int .i64 0, .int .i64 0, .string ⟨#[]⟩] := bkV; have b4 : Blk w1 (w.heap.size + 1 + 1 + 1) 25 #[.int .i64 order, .int .i64 status, .int .i64 prior, .int .i64 cur, .int .i64 tax, .slice A n c, .int .i64 paid, .int .i64 refunded, .int .i64 events, .int .i64 refused, .int .i64 stamp, .string who] := bkV; (have a0 : World.cell? w1 ⟨w.heap.size, 0, none⟩ = some (.int .i64 order) := Blk.cell b1 0; have a1 : World.cell? w1 ⟨w.heap.size, 1, none⟩ = some (.int .i64 status) := Blk.cell b1 1; have a2 : World.cell? w1 ⟨w.heap.size, 2, none⟩ = some (.int .i64 prior) := Blk.cell b1 2; have a3 : World.cell? w1 ⟨w.heap.size, 3, none⟩ = some (.int .i64 cur) := Blk.cell b1 3; have a4 : World.cell? w1 ⟨w.heap.size, 4, none⟩ = some (.int .i64 tax) := Blk.cell b1 4; have a5 : World.cell? w1 ⟨w.heap.size, 5, none⟩ = some _ := Blk.cell b1 5; have a6 : World.cell? w1 ⟨w.heap.size, 6, none⟩ = some (.int .i64 paid) := Blk.cell b1 6; have a7 : World.cell? w1 ⟨w.heap.size, 7, none⟩ = some (.int .i64 refunded) := Blk.cell b1 7; have a8 : World.cell? w1 ⟨w.heap.size, 8, none⟩ = some (.int .i64 events) := Blk.cell b1 8; have a9 : World.cell? w1 ⟨w.heap.size, 9, none⟩ = some (.int .i64 refused) := Blk.cell b1 9; have a10 : World.cell? w1 ⟨w.heap.size, 10, none⟩ = some (.int .i64 stamp) := Blk.cell b1 10; have a11 : World.cell? w1 ⟨w.heap.size, 11, none⟩ = some (.string who) := Blk.cell b1 11); (have v0 : World.cell? w1 ⟨w.heap.size + 1, 0, none⟩ = some (.int .i64 ek) := Blk.cell b2 0; have v1 : World.cell? w1 ⟨w.heap.size + 1, 1, none⟩ = some (.int .i64 eo) := Blk.cell b2 1; have v2 : World.cell? w1 ⟨w.heap.size + 1, 2, none⟩ = some (.int .i64 ei) := Blk.cell b2 2; have v3 : World.cell? w1 ⟨w.heap.size + 1, 3, none⟩ = some (.int .i64 eq) := Blk.cell b2 3; have v4 : World.cell? w1 ⟨w.heap.size + 1, 4, none⟩ = some (.int .i64 ep) := Blk.cell b2 4; have v5 : World.cell? w1 ⟨w.heap.size + 1, 5, none⟩ = some (.int .i64 ec) := Blk.cell b2 5; have v6 : World.cell? w1 ⟨w.heap.size + 1, 6, none⟩ = some (.int .i64 et) := Blk.cell b2 6; have v7 : World.cell? w1 ⟨w.heap.size + 1, 7, none⟩ = some (.string ew) := Blk.cell b2 7; have v8 : World.cell? w1 ⟨w.heap.size + 1, 8, none⟩ = some (.int .i64 es) := Blk.cell b2 8; have v9 : World.cell? w1 ⟨w.heap.size + 1, 9, none⟩ = some (.string en) := Blk.cell b2 9); have z4 := b4.cell 5; have z5 := b4.frozen 5; have o1 : OwnLs w1 (w.heap.size + 1 + 1 + 1) A1 ls c1 := own_less ho1 (by (first | omega | (dsimp only; omega) | (simp; done) | (simp; omega)))) | (go_at_call 18; (with_reducible refine (KJ.out _ (hr.ext exA)).mono ?_); rintro e w2 ⟨rfl, hx2⟩; have d2 : Blk w2 (w.heap.size + 1) 28 #[.int .i64 ek, .int .i64 eo, .int .i64 ei, .int .i64 eq, .int .i64 ep, .int .i64 ec, .int .i64 et, .string ew, .int .i64 es, .string en] := bkV; have d3 : Blk w2 (w.heap.size + 1 + 1) 25 #[.int .i64 0, .int .i64 0, .int .i64 0, .int .i64 0, .int .i64 0, .slice none 0 0, .int .i64 0, .int .i64 0, .int .i64 0, .int .i64 0, .int .i64 0, .string ⟨#[]⟩] := bkV; have d4 : Blk w2 (w.heap.size + 1 + 1 + 1) 25 #[.int .i64 order, .int .i64 status, .int .i64 prior, .int .i64 cur, .int .i64 tax, .slice A1 n c1, .int .i64 paid, .int .i64 refunded, .int .i64 events, .int .i64 refused, .int .i64 stamp, .string who] := Blk_eq (BlkE (BlkS b4) hx2) rfl; have HN1 := Lib.hid (own_apart o1 b4); have o2 : OwnLs w2 (w.heap.size + 1 + 1 + 1) A1 ls c1 := OwnLs.mono (OwnSt HN1.out o1) hx2; (have p0 : World.cell? w2 ⟨w.heap.size + 1 + 1 + 1, 0, none⟩ = some (.int .i64 order) := Blk.cell d4 0; have p1 : World.cell? w2 ⟨w.heap.size + 1 + 1 + 1, 1, none⟩ = some (.int .i64 status) := Blk.cell d4 1; have p2 : World.cell? w2 ⟨w.heap.size + 1 + 1 + 1, 2, none⟩ = some (.int .i64 prior) := Blk.cell d4 2; have p3 : World.cell? w2 ⟨w.heap.size + 1 + 1 + 1, 3, none⟩ = some (.int .i64 cur) := Blk.cell d4 3; have p4 : World.cell? w2 ⟨w.heap.size + 1 + 1 + 1, 4, none⟩ = some (.int .i64 tax) := Blk.cell d4 4; have p5 : World.cell? w2 ⟨w.heap.size + 1 + 1 + 1, 5, none⟩ = some _ := Blk.cell d4 5; have p6 : World.cell? w2 ⟨w.heap.size + 1 + 1 + 1, 6, none⟩ = some (.int .i64 paid) := Blk.cell d4 6; have p7 : World.cell? w2 ⟨w.heap.size + 1 + 1 + 1, 7, none⟩ = some (.int .i64 refunded) := Blk.cell d4 7; have p8 : World.cell? w2 ⟨w.heap.size + 1 + 1 + 1, 8, none⟩ = some (.int .i64 events) := Blk.cell d4 8; have p9 : World.cell? w2 ⟨w.heap.size + 1 + 1 + 1, 9, none⟩ = some (.int .i64 refused) := Blk.cell d4 9; have p10 : World.cell? w2 ⟨w.heap.size + 1 + 1 + 1, 10, none⟩ = some (.int .i64 stamp) := Blk.cell d4 10; have p11 : World.cell? w2 ⟨w.heap.size + 1 + 1 + 1, 11, none⟩ = some (.string who) := Blk.cell d4 11)) | (with_reducible refine wpL_store_row rfl 25 (.tmp 4) (.tmp 22) rfl _ 25 _ _ rfl rfl d3 ((st_size' _ _ _ _ _ _ _ _ _ _ _ _ _ _).trans (st_size' _ _ _ _ _ _ _ _ _ _ _ _ _ _).symm) (st_one' _ _ _ _ _ _ _ _ _ _ _ _ _ _) 12 st_wide (st_size' _ _ _ _ _ _ _ _ _ _ _ _ _ _) ?_))
    refine bodyPost_ret (res_row_t rfl _ _ 25 _ 12 _ rfl rfl (Blk.setRow_ d3) st_wide rfl) rfl ?_
    have hap := own_apart o2 d3
    exact ⟨A1, c1, rfl, exA, own_less (OwnRw hap o2) (by omega)⟩
set_option maxRecDepth 100000 in
set_option maxHeartbeats 4000000 in
theorem apply_b (s : St) (e : Ev) (A : Option Addr) (c : Nat) (w : World) (hr : LsRd w A s.lines) (hn : s.lines.length ≤ 4398046510976) (hw1 : s.who.size ≤ 4611686018427387904) (hw2 : e.who.size ≤ 4611686018427387904) (hw3 : e.note.size ≤ 4611686018427387904) (hJ : judge s e ≠ 0 ∧ judge s e ≠ 1 ∧ judge s e ≠ 2) (hev : 0 ≤ s.events ∧ s.events ≤ 1099511627776) (hrf : 0 ≤ s.refused ∧ s.refused ≤ 1099511627776) :
    Calls Try.prog 27 #[.agg (stcells s A c), .agg (evcells e)] w (ApPost w { s with events := s.events + 1, refused := s.refused + 1 } (judge s e)) := by
  have KC := Lib.hid fun W (h : LsRd W A s.lines) => clone_any A s.lines c W h hn
  have KJ := Lib.hid fun W (h : LsRd W A s.lines) => judge_any s e A c W h (by omega) hw1 hw2 hw3
  clear hn hw1 hw2 hw3
  generalize judge s e = J at *
  obtain ⟨order, status, prior, cur, tax, ls, paid, refunded, events, refused, stamp, who⟩ := s
  obtain ⟨ek, eo, ei, eq, ep, ec, et, ew, es, en⟩ := e
  unfold NewLs at KC
  unfold stcells evcells at *
  unfold ApPost stcells
  dsimp only at *
  have Hnn : Hid (∃ n, n = ls.length) := Lib.hid ⟨_, rfl⟩
  obtain ⟨n, hnn⟩ := Hnn.out
  rw [← hnn] at KC KJ ⊢
  clear hnn Hnn
  have j1 : ((J : Int) == 1) = false := by simp; omega
  have j2 : ((J : Int) == 2) = false := by simp; omega
  have j0 : ((J : Int) != 0) = true := by simp; omega
  have hv1 : IntKind.i64.wrap (events + 1) = events + 1 := by rw [IntKind.wrap_i64]; omega
  have hv2 : IntKind.i64.wrap (refused + 1) = refused + 1 := by rw [IntKind.wrap_i64]; omega
  have HB5 : Hid (∀ W : World, Blk W (w.heap.size + 1 + 1) 25 #[.int .i64 0, .int .i64 0, .int .i64 0, .int .i64 0, .int .i64 0, .slice none 0 0, .int .i64 0, .int .i64 0, .int .i64 0, .int .i64 0, .int .i64 0, .string ⟨#[]⟩] → Blk ((W.setCell ⟨w.heap.size + 1 + 1 + 1, 8, none⟩ (.int .i64 (events + 1))).setCell ⟨w.heap.size + 1 + 1 + 1, 9, none⟩ (.int .i64 (refused + 1))) (w.heap.size + 1 + 1) 25 #[.int .i64 0, .int .i64 0, .int .i64 0, .int .i64 0, .int .i64 0, .slice none 0 0, .int .i64 0, .int .i64 0, .int .i64 0, .int .i64 0, .int .i64 0, .string ⟨#[]⟩]) := Lib.hid fun W h => bkV
  clear hJ
  go_enter Try.func27, Try.ntmps27
  go_wp2_with (first | (go_at_call 47; (with_reducible refine (KC.out _ (hr.ext exA)).mono ?_); rintro e w1 ⟨A1, c1, rfl, hx1, ho1⟩; have b1 : Blk w1 w.heap.size 25 #[.int .i64 order, .int .i64 status, .int .i64 prior, .int .i64 cur, .int .i64 tax, .slice A n c, .int .i64 paid, .int .i64 refunded, .int .i64 events, .int .i64 refused, .int .i64 stamp, .string who] := bkV; have b2 : Blk w1 (w.heap.size + 1) 28 #[.int .i64 ek, .int .i64 eo, .int .i64 ei, .int .i64 eq, .int .i64 ep, .int .i64 ec, .int .i64 et, .string ew, .int .i64 es, .string en] := bkV; have b3 : Blk w1 (w.heap.size + 1 + 1) 25 #[.int .i64 0, .int .i64 0, .int .i64 0, .int .i64 0, .int .i64 0, .slice none 0 0, .int .i64 0, .int .i64 0, .int .i64 0, .int .i64 0, .int .i64 0, .string ⟨#[]⟩] := bkV; have b4 : Blk w1 (w.heap.size + 1 + 1 + 1) 25 #[.int .i64 order, .int .i64 status, .int .i64 prior, .int .i64 cur, .int .i64 tax, .slice A n c, .int .i64 paid, .int .i64 refunded, .int .i64 events, .int .i64 refused, .int .i64 stamp, .string who] := bkV; (have a0 : World.cell? w1 ⟨w.heap.size, 0, none⟩ = some (.int .i64 order) := Blk.cell b1 0; have a1 : World.cell? w1 ⟨w.heap.size, 1, none⟩ = some (.int .i64 status) := Blk.cell b1 1; have a2 : World.cell? w1 ⟨w.heap.size, 2, none⟩ = some (.int .i64 prior) := Blk.cell b1 2; have a3 : World.cell? w1 ⟨w.heap.size, 3, none⟩ = some (.int .i64 cur) := Blk.cell b1 3; have a4 : World.cell? w1 ⟨w.heap.size, 4, none⟩ = some (.int .i64 tax) := Blk.cell b1 4; have a5 : World.cell? w1 ⟨w.heap.size, 5, none⟩ = some _ := Blk.cell b1 5; have a6 : World.cell? w1 ⟨w.heap.size, 6, none⟩ = some (.int .i64 paid) := Blk.cell b1 6; have a7 : World.cell? w1 ⟨w.heap.size, 7, none⟩ = some (.int .i64 refunded) := Blk.cell b1 7; have a8 : World.cell? w1 ⟨w.heap.size, 8, none⟩ = some (.int .i64 events) := Blk.cell b1 8; have a9 : World.cell? w1 ⟨w.heap.size, 9, none⟩ = some (.int .i64 refused) := Blk.cell b1 9; have a10 : World.cell? w1 ⟨w.heap.size, 10, none⟩ = some (.int .i64 stamp) := Blk.cell b1 10; have a11 : World.cell? w1 ⟨w.heap.size, 11, none⟩ = some (.string who) := Blk.cell b1 11); (have v0 : World.cell? w1 ⟨w.heap.size + 1, 0, none⟩ = some (.int .i64 ek) := Blk.cell b2 0; have v1 : World.cell? w1 ⟨w.heap.size + 1, 1, none⟩ = some (.int .i64 eo) := Blk.cell b2 1; have v2 : World.cell? w1 ⟨w.heap.size + 1, 2, none⟩ = some (.int .i64 ei) := Blk.cell b2 2; have v3 : World.cell? w1 ⟨w.heap.size + 1, 3, none⟩ = some (.int .i64 eq) := Blk.cell b2 3; have v4 : World.cell? w1 ⟨w.heap.size + 1, 4, none⟩ = some (.int .i64 ep) := Blk.cell b2 4; have v5 : World.cell? w1 ⟨w.heap.size + 1, 5, none⟩ = some (.int .i64 ec) := Blk.cell b2 5; have v6 : World.cell? w1 ⟨w.heap.size + 1, 6, none⟩ = some (.int .i64 et) := Blk.cell b2 6; have v7 : World.cell? w1 ⟨w.heap.size + 1, 7, none⟩ = some (.string ew) := Blk.cell b2 7; have v8 : World.cell? w1 ⟨w.heap.size + 1, 8, none⟩ = some (.int .i64 es) := Blk.cell b2 8; have v9 : World.cell? w1 ⟨w.heap.size + 1, 9, none⟩ = some (.string en) := Blk.cell b2 9); have z4 := b4.cell 5; have z5 := b4.frozen 5; have o1 : OwnLs w1 (w.heap.size + 1 + 1 + 1) A1 ls c1 := own_less ho1 (by (first | omega | (dsimp only; omega) | (simp; done) | (simp; omega)))) | ((go_at_call 18; (with_reducible refine (KJ.out _ (hr.ext exA)).mono ?_); rintro e w2 ⟨rfl, hx2⟩; have d2 : Blk w2 (w.heap.size + 1) 28 #[.int .i64 ek, .int .i64 eo, .int .i64 ei, .int .i64 eq, .int .i64 ep, .int .i64 ec, .int .i64 et, .string ew, .int .i64 es, .string en] := bkV; have d3 : Blk w2 (w.heap.size + 1 + 1) 25 #[.int .i64 0, .int .i64 0, .int .i64 0, .int .i64 0, .int .i64 0, .slice none 0 0, .int .i64 0, .int .i64 0, .int .i64 0, .int .i64 0, .int .i64 0, .string ⟨#[]⟩] := bkV; have d4 : Blk w2 (w.heap.size + 1 + 1 + 1) 25 #[.int .i64 order, .int .i64 status, .int .i64 prior, .int .i64 cur, .int .i64 tax, .slice A1 n c1, .int .i64 paid, .int .i64 refunded, .int .i64 events, .int .i64 refused, .int .i64 stamp, .string who] := Blk_eq (BlkE (BlkS b4) hx2) rfl; have HN1 := Lib.hid (own_apart o1 b4); have o2 : OwnLs w2 (w.heap.size + 1 + 1 + 1) A1 ls c1 := OwnLs.mono (OwnSt HN1.out o1) hx2; (have p0 : World.cell? w2 ⟨w.heap.size + 1 + 1 + 1, 0, none⟩ = some (.int .i64 order) := Blk.cell d4 0; have p1 : World.cell? w2 ⟨w.heap.size + 1 + 1 + 1, 1, none⟩ = some (.int .i64 status) := Blk.cell d4 1; have p2 : World.cell? w2 ⟨w.heap.size + 1 + 1 + 1, 2, none⟩ = some (.int .i64 prior) := Blk.cell d4 2; have p3 : World.cell? w2 ⟨w.heap.size + 1 + 1 + 1, 3, none⟩ = some (.int .i64 cur) := Blk.cell d4 3; have p4 : World.cell? w2 ⟨w.heap.size + 1 + 1 + 1, 4, none⟩ = some (.int .i64 tax) := Blk.cell d4 4; have p5 : World.cell? w2 ⟨w.heap.size + 1 + 1 + 1, 5, none⟩ = some _ := Blk.cell d4 5; have p6 : World.cell? w2 ⟨w.heap.size + 1 + 1 + 1, 6, none⟩ = some (.int .i64 paid) := Blk.cell d4 6; have p7 : World.cell? w2 ⟨w.heap.size + 1 + 1 + 1, 7, none⟩ = some (.int .i64 refunded) := Blk.cell d4 7; have p8 : World.cell? w2 ⟨w.heap.size + 1 + 1 + 1, 8, none⟩ = some (.int .i64 events) := Blk.cell d4 8; have p9 : World.cell? w2 ⟨w.heap.size + 1 + 1 + 1, 9, none⟩ = some (.int .i64 refused) := Blk.cell d4 9; have p10 : World.cell? w2 ⟨w.heap.size + 1 + 1 + 1, 10, none⟩ = some (.int .i64 stamp) := Blk.cell d4 10; have p11 : World.cell? w2 ⟨w.heap.size + 1 + 1 + 1, 11, none⟩ = some (.string who) := Blk.cell d4 11)); have y8 := d4.frozen 8; have y9 := d4.frozen 9) | (with_reducible refine wpL_store_row rfl 25 (.tmp 4) (.tmp 34) rfl _ 25 _ _ rfl rfl (HB5.out _ d3) ((st_size' _ _ _ _ _ _ _ _ _ _ _ _ _ _).trans (st_size' _ _ _ _ _ _ _ _ _ _ _ _ _ _).symm) (st_one' _ _ _ _ _ _ _ _ _ _ _ _ _ _) 12 st_wide (st_size' _ _ _ _ _ _ _ _ _ _ _ _ _ _) ?_))
  refine bodyPost_ret (res_row_t rfl _ _ 25 _ 12 _ rfl rfl (Blk.setRow_ (HB5.out _ d3)) st_wide rfl) rfl ?_
  have hap := own_apart o2 d3
  have hap4 := own_apart o2 d4
  exact ⟨A1, c1, rfl, exA, own_less (OwnRw hap (OwnSt hap4 (OwnSt hap4 o2))) (by omega)⟩
end Go.Proofs.Ytlpjhnecihhkfaa
