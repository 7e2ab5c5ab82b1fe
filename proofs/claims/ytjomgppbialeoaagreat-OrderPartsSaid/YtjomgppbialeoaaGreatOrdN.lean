/-
  The walk of order.add.
-/
import Derived.Test.YtjomgppbialeoaaGreatOrdR
import Derived.Test.YtjomgppbialeoaaGreatOrdG
import Derived.Test.YtjomgppbialeoaaGreatOrdB
import Derived.Shelf.RegionOpenPlain
import Derived.Calls
namespace Go.Proofs.YtjomgppbialeoaaGreat
open Go.RowKit
set_option linter.unusedVariables false
set_option linter.unusedSimpArgs false
theorem step_callR {P : Program} {w : World} {ops : Array Oper} {o : Oper} {a : Act} {K : Act → World → Prop} {Q : Exit → Act → World → Prop} {E : Prop}
    (hgd : o.guard = none) (d : Option Tmp) (hd : o.dst = d) (f : FuncId) (fn : Func) (hf : P.funcs[f]? = some fn) (hnm : (fn.name == "runtime.NumGoroutine") = false) (hbd : fn.body.isNone = false) (args : Array Operand) (ats : Array TypeId) (ho : o.op = .call { callee := .value (.func f), args := args, argTypes := ats })
    (vals : Array Value) (hv : args.map a.eval = vals) (R : Ending → World → Prop) (hc : Calls P f vals w R) (hK : ∀ e w', R e w' → ∃ v, e = .returned v ∧ K (a.put d v) w') :
    if Region.wanted o (yielded ops a.tmps) = true then Oper.wp P o a w K Q else E := by
  subst hd
  have hwt : Region.wanted o (yielded ops a.tmps) = true := by simp [Region.wanted, hgd]
  rw [if_pos hwt]
  obtain ⟨dst, op, ty, pos, after, guard⟩ := o
  simp only at ho
  subst ho
  have hr : (execOp a.eval { dst, op := .call { callee := .value (.func f), args := args, argTypes := ats }, type := ty, pos, after, guard }).run P w = .ok (.enter f vals) w := by
    subst hv
    have h2 : (callFunc f (#[] ++ args.map a.eval ++ #[])).run P w = .ok (.enter f (args.map a.eval)) w := by
      have hnm' : ¬ fn.name = "runtime.NumGoroutine" := by simpa using hnm
      have hbd' : ¬ fn.body = none := by intro hc; rw [hc] at hbd; simp at hbd
      simp [callFunc, go_sem, hf, hnm', hbd']
    exact h2
  unfold Oper.wp
  rw [hr, Oper.upon_enter]
  refine hc.mono fun e w' h => ?_
  obtain ⟨v, rfl, hk⟩ := hK e w' h
  exact hk
theorem insert_any (ls : List Ln) (l : Ln) (k : Nat) (A : Option Addr) (c base : Nat) (w : World) (hown : OwnLs w base A ls c) (hlen : ls.length ≤ 16) (hk : k ≤ ls.length) (vb : Nat) (hv : Blk w vb 44 (lncells l)) (hvb : some vb ≠ (Value.slice A ls.length c).ownBlock) (hbase : base ≤ w.heap.size) :
    Calls Tryz.prog 72 #[.slice A ls.length c, .int .i64 (k : Nat), .slice (some ⟨vb, 0, none⟩) 1 1] w (InsPost w base A ls.length c (ls.take k ++ l :: ls.drop k)) := by
  have hnc := own_cap hown
  rcases Nat.lt_or_ge k ls.length with h | h
  · rcases Nat.lt_or_ge ls.length c with h2 | h2
    · exact insert_room ls l k A c base w hown hlen h (by omega) vb hv hvb
    · obtain rfl : c = ls.length := by omega
      exact insert_grow ls l k A base w hown hlen h vb hv hbase
  · obtain rfl : k = ls.length := by omega
    have := insert_end ls l A c base w hown hlen vb hv hbase
    rwa [List.take_length, List.drop_length]
theorem own_frozen {w : World} {base lb c : Nat} {ls : List Ln} (h : OwnLs w base (some ⟨lb, 0, none⟩) ls c) (j : Nat) : w.frozen? ⟨lb, j, none⟩ = false := World.ownsRow.frozenAt h j
set_option maxRecDepth 100000 in
set_option maxHeartbeats 4000000 in
theorem add_yes (s : St) (e : Ev) (A : Option Addr) (c g : Nat) (W0 w : World) (hx : Ext W0 w) (hg : W0.heap.size ≤ g) (hb : Blk w g 25 (stcells s A c)) (ho : OwnLs w W0.heap.size A s.lines c) (hlen : s.lines.length ≤ 16) (hr : risesB (-1) s.lines = true) (he : EOk e) (ht : thereB e.item s.lines = true) :
    Calls Tryz.prog 47 #[.pointer (some ⟨g, 0, none⟩), .agg (evcells e)] w (TurnPost W0 g { s with lines := more e.item e.price e.qty s.lines }) := by
  obtain ⟨hP, hPi⟩ := pos_there hr ht
  have hM := more_there (price := e.price) (q := e.qty) hr ht hP
  have hlk := (lnB_iff.1 (rises_mem hr _ (List.getElem_mem hP)).1).2.2.1
  have hq := he.qty
  rw [if_pos (by omega)] at hM
  have K := Lib.hid fun W (h : OwnLs W W0.heap.size A s.lines c) => find_any s e.item A c W h.rd hlen hr he.item
  rw [ht] at K
  obtain ⟨lb, _, rfl, _, _⟩ := lown_blk ho (by omega)
  have Ho := Lib.hid ho
  have Hb := Lib.hid hb
  have HN := Lib.hid (own_apart ho hb)
  have hglb : g ≠ lb := fun h => HN.out 0 0 (by rw [h]; rfl)
  have hlbw := (World.ownsRow.lt ho lb rfl).1
  have hgw := hb.lt
  have HLn := Lib.hid fun w' (h : OwnLs w' W0.heap.size (some ⟨lb, 0, none⟩) s.lines c) => own_at h hP
  have HFz := Lib.hid fun w' (h : OwnLs w' W0.heap.size (some ⟨lb, 0, none⟩) s.lines c) => own_frozen h
  have HSet := Lib.hid fun w' (h : OwnLs w' W0.heap.size (some ⟨lb, 0, none⟩) s.lines c) => own_set (f := 2) (v := .int .i64 ((s.lines[posOf e.item s.lines]).qty + e.qty)) (l := ⟨(s.lines[posOf e.item s.lines]).item, (s.lines[posOf e.item s.lines]).price, (s.lines[posOf e.item s.lines]).qty + e.qty, (s.lines[posOf e.item s.lines]).shipped⟩) h hP (by omega) rfl
  clear ho hr he ht hPi
  rw [← hM] at HSet
  have hML : (more e.item e.price e.qty s.lines).length = s.lines.length := by rw [hM, List.length_set]
  clear hM
  generalize s.lines[posOf e.item s.lines] = l at *
  generalize posOf e.item s.lines = P at *
  generalize more e.item e.price e.qty s.lines = ls2 at *
  obtain ⟨order, status, prior, cur, tax, ls, paid, refunded, events, refused, stamp, who⟩ := s
  obtain ⟨ek, eo, ei, eq, ep, ec, et, ew, es, en⟩ := e
  obtain ⟨li, lp, lq, lsh⟩ := l
  unfold stcells evcells lncells at *
  unfold TurnPost stcells
  dsimp only at *
  rw [hML]
  have Hnn : Hid (∃ n, n = ls.length) := Lib.hid ⟨_, rfl⟩
  obtain ⟨n, hnn⟩ := Hnn.out
  rw [← hnn] at Hb hb K hlen hP ⊢
  clear hnn Hnn hML
  have hw : IntKind.i64.wrap (lq + eq) = lq + eq := by rw [IntKind.wrap_i64]; omega
  have HS := Lib.hid (fun w' (h1 : Ext W0 w') (h2 : Blk w' g 25 #[.int .i64 order, .int .i64 status, .int .i64 prior, .int .i64 cur, .int .i64 tax, .slice (some ⟨lb, 0, none⟩) n c, .int .i64 paid, .int .i64 refunded, .int .i64 events, .int .i64 refused, .int .i64 stamp, .string who]) (h3 : OwnLs w' W0.heap.size (some ⟨lb, 0, none⟩) ls c) (h4 : Blk w' w.heap.size 38 #[.int .i64 ek, .int .i64 eo, .int .i64 ei, .int .i64 eq, .int .i64 ep, .int .i64 ec, .int .i64 et, .string ew, .int .i64 es, .string en]) => (⟨h1, h2, h3, h4, h2.frozen 1, h2.frozen 5, h2.cell 0, h2.cell 1, h2.cell 2, h2.cell 3, h2.cell 4, h2.cell 5, h2.cell 6, h2.cell 7, h2.cell 8, h2.cell 9, h2.cell 10, h2.cell 11, h4.cell 2, h4.cell 3, h4.cell 4, HLn.out w' h3 2 _ rfl, HFz.out w' h3 _, HLn.out w' h3 3 _ rfl, HFz.out w' h3 _⟩ : (fun w' : World => Ext W0 w' ∧ Blk w' g 25 #[.int .i64 order, .int .i64 status, .int .i64 prior, .int .i64 cur, .int .i64 tax, .slice (some ⟨lb, 0, none⟩) n c, .int .i64 paid, .int .i64 refunded, .int .i64 events, .int .i64 refused, .int .i64 stamp, .string who] ∧ OwnLs w' W0.heap.size (some ⟨lb, 0, none⟩) ls c ∧ Blk w' w.heap.size 38 #[.int .i64 ek, .int .i64 eo, .int .i64 ei, .int .i64 eq, .int .i64 ep, .int .i64 ec, .int .i64 et, .string ew, .int .i64 es, .string en] ∧ w'.frozen? ⟨g, 1, none⟩ = false ∧ w'.frozen? ⟨g, 5, none⟩ = false ∧ w'.cell? ⟨g, 0, none⟩ = some (.int .i64 order) ∧ w'.cell? ⟨g, 1, none⟩ = some (.int .i64 status) ∧ w'.cell? ⟨g, 2, none⟩ = some (.int .i64 prior) ∧ w'.cell? ⟨g, 3, none⟩ = some (.int .i64 cur) ∧ w'.cell? ⟨g, 4, none⟩ = some (.int .i64 tax) ∧ w'.cell? ⟨g, 5, none⟩ = some (.slice (some ⟨lb, 0, none⟩) n c) ∧ w'.cell? ⟨g, 6, none⟩ = some (.int .i64 paid) ∧ w'.cell? ⟨g, 7, none⟩ = some (.int .i64 refunded) ∧ w'.cell? ⟨g, 8, none⟩ = some (.int .i64 events) ∧ w'.cell? ⟨g, 9, none⟩ = some (.int .i64 refused) ∧ w'.cell? ⟨g, 10, none⟩ = some (.int .i64 stamp) ∧ w'.cell? ⟨g, 11, none⟩ = some (.string who) ∧ w'.cell? ⟨w.heap.size, 2, none⟩ = some (.int .i64 ei) ∧ w'.cell? ⟨w.heap.size, 3, none⟩ = some (.int .i64 eq) ∧ w'.cell? ⟨w.heap.size, 4, none⟩ = some (.int .i64 ep) ∧ w'.cell? ⟨lb, P * 4 + 2, none⟩ = some (.int .i64 lq) ∧ w'.frozen? ⟨lb, P * 4 + 2, none⟩ = false ∧ w'.cell? ⟨lb, P * 4 + 3, none⟩ = some (.int .i64 lsh) ∧ w'.frozen? ⟨lb, P * 4 + 3, none⟩ = false) w'))
  (have a0 : World.cell? w ⟨g, 0, none⟩ = some (.int .i64 order) := Blk.cell hb 0; have a1 : World.cell? w ⟨g, 1, none⟩ = some (.int .i64 status) := Blk.cell hb 1; have a2 : World.cell? w ⟨g, 2, none⟩ = some (.int .i64 prior) := Blk.cell hb 2; have a3 : World.cell? w ⟨g, 3, none⟩ = some (.int .i64 cur) := Blk.cell hb 3; have a4 : World.cell? w ⟨g, 4, none⟩ = some (.int .i64 tax) := Blk.cell hb 4; have a5 : World.cell? w ⟨g, 5, none⟩ = some _ := Blk.cell hb 5; have a6 : World.cell? w ⟨g, 6, none⟩ = some (.int .i64 paid) := Blk.cell hb 6; have a7 : World.cell? w ⟨g, 7, none⟩ = some (.int .i64 refunded) := Blk.cell hb 7; have a8 : World.cell? w ⟨g, 8, none⟩ = some (.int .i64 events) := Blk.cell hb 8; have a9 : World.cell? w ⟨g, 9, none⟩ = some (.int .i64 refused) := Blk.cell hb 9; have a10 : World.cell? w ⟨g, 10, none⟩ = some (.int .i64 stamp) := Blk.cell hb 10; have a11 : World.cell? w ⟨g, 11, none⟩ = some (.string who) := Blk.cell hb 11)
  clear hb
  go_enter Tryz.func47, Tryz.ntmps47
  go_wp2_with fail
  go_region_held3 (fun w' : World => Ext W0 w' ∧ Blk w' g 25 #[.int .i64 order, .int .i64 status, .int .i64 prior, .int .i64 cur, .int .i64 tax, .slice (some ⟨lb, 0, none⟩) n c, .int .i64 paid, .int .i64 refunded, .int .i64 events, .int .i64 refused, .int .i64 stamp, .string who] ∧ OwnLs w' W0.heap.size (some ⟨lb, 0, none⟩) ls c ∧ Blk w' w.heap.size 38 #[.int .i64 ek, .int .i64 eo, .int .i64 ei, .int .i64 eq, .int .i64 ep, .int .i64 ec, .int .i64 et, .string ew, .int .i64 es, .string en] ∧ w'.frozen? ⟨g, 1, none⟩ = false ∧ w'.frozen? ⟨g, 5, none⟩ = false ∧ w'.cell? ⟨g, 0, none⟩ = some (.int .i64 order) ∧ w'.cell? ⟨g, 1, none⟩ = some (.int .i64 status) ∧ w'.cell? ⟨g, 2, none⟩ = some (.int .i64 prior) ∧ w'.cell? ⟨g, 3, none⟩ = some (.int .i64 cur) ∧ w'.cell? ⟨g, 4, none⟩ = some (.int .i64 tax) ∧ w'.cell? ⟨g, 5, none⟩ = some (.slice (some ⟨lb, 0, none⟩) n c) ∧ w'.cell? ⟨g, 6, none⟩ = some (.int .i64 paid) ∧ w'.cell? ⟨g, 7, none⟩ = some (.int .i64 refunded) ∧ w'.cell? ⟨g, 8, none⟩ = some (.int .i64 events) ∧ w'.cell? ⟨g, 9, none⟩ = some (.int .i64 refused) ∧ w'.cell? ⟨g, 10, none⟩ = some (.int .i64 stamp) ∧ w'.cell? ⟨g, 11, none⟩ = some (.string who) ∧ w'.cell? ⟨w.heap.size, 2, none⟩ = some (.int .i64 ei) ∧ w'.cell? ⟨w.heap.size, 3, none⟩ = some (.int .i64 eq) ∧ w'.cell? ⟨w.heap.size, 4, none⟩ = some (.int .i64 ep) ∧ w'.cell? ⟨lb, P * 4 + 2, none⟩ = some (.int .i64 lq) ∧ w'.frozen? ⟨lb, P * 4 + 2, none⟩ = false ∧ w'.cell? ⟨lb, P * 4 + 3, none⟩ = some (.int .i64 lsh) ∧ w'.frozen? ⟨lb, P * 4 + 3, none⟩ = false) (exact HS.out _ (by repeat (first | with_reducible exact Below.refl _ _ | with_reducible assumption | with_reducible refine ExtD ?_ | with_reducible refine ExtDN ?_ | with_reducible refine ExtA ?_ | (with_reducible refine ExtR ?_ ?_; (first | omega | (dsimp only; omega) | (simp; done) | (simp; omega))) | (with_reducible refine ExtS ?_ ?_; (first | omega | (dsimp only; omega) | (simp; done) | (simp; omega))) | with_reducible refine Ext.tr ?_ (by with_reducible assumption))) (by apply Blk_eq; (· (repeat (first | with_reducible exact Hb.out | with_reducible assumption | with_reducible apply BlkD | with_reducible apply BlkDN | with_reducible apply BlkA | with_reducible apply BlkS | (with_reducible apply BlkF; rotate_left; (first | omega | (dsimp only; omega) | (simp; done) | (simp; omega))) | (with_reducible apply BlkE; rotate_left; with_reducible assumption)))); (· rfl)) (by repeat (first | with_reducible assumption | with_reducible exact Ho.out | with_reducible refine OwnD ?_ | with_reducible refine OwnDN ?_ | with_reducible refine OwnA ?_ | with_reducible refine OwnSt HN.out ?_ | with_reducible refine OwnLs.mono ?_ (by with_reducible assumption))) (by repeat (first | with_reducible assumption | (with_reducible refine BlkN ?_; (first | rfl | (first | omega | (dsimp only; omega) | (simp; done) | (simp; omega)))) | with_reducible refine BlkD ?_ | with_reducible refine BlkDN ?_ | with_reducible refine BlkA ?_ | (with_reducible refine BlkF ?_ ?_; (first | omega | (dsimp only; omega) | (simp; done) | (simp; omega))) | with_reducible refine BlkE ?_ (by with_reducible assumption)))) ((go_at_call 71; (with_reducible refine (K.out _ (by repeat (first | with_reducible assumption | with_reducible exact Ho.out | with_reducible refine OwnD ?_ | with_reducible refine OwnDN ?_ | with_reducible refine OwnA ?_ | with_reducible refine OwnSt HN.out ?_ | with_reducible refine OwnLs.mono ?_ (by with_reducible assumption)))).mono ?_); rintro e w1 ⟨rfl, hx1⟩; have h3 := (HS.out w1 (by repeat (first | with_reducible exact Below.refl _ _ | with_reducible assumption | with_reducible refine ExtD ?_ | with_reducible refine ExtDN ?_ | with_reducible refine ExtA ?_ | (with_reducible refine ExtR ?_ ?_; (first | omega | (dsimp only; omega) | (simp; done) | (simp; omega))) | (with_reducible refine ExtS ?_ ?_; (first | omega | (dsimp only; omega) | (simp; done) | (simp; omega))) | with_reducible refine Ext.tr ?_ (by with_reducible assumption))) (by apply Blk_eq; (· (repeat (first | with_reducible exact Hb.out | with_reducible assumption | with_reducible apply BlkD | with_reducible apply BlkDN | with_reducible apply BlkA | with_reducible apply BlkS | (with_reducible apply BlkF; rotate_left; (first | omega | (dsimp only; omega) | (simp; done) | (simp; omega))) | (with_reducible apply BlkE; rotate_left; with_reducible assumption)))); (· rfl)) (OwnLs.mono (by repeat (first | with_reducible assumption | with_reducible exact Ho.out | with_reducible refine OwnD ?_ | with_reducible refine OwnDN ?_ | with_reducible refine OwnA ?_ | with_reducible refine OwnSt HN.out ?_ | with_reducible refine OwnLs.mono ?_ (by with_reducible assumption))) hx1) (by repeat (first | with_reducible assumption | (with_reducible refine BlkN ?_; (first | rfl | (first | omega | (dsimp only; omega) | (simp; done) | (simp; omega)))) | with_reducible refine BlkD ?_ | with_reducible refine BlkDN ?_ | with_reducible refine BlkA ?_ | (with_reducible refine BlkF ?_ ?_; (first | omega | (dsimp only; omega) | (simp; done) | (simp; omega))) | with_reducible refine BlkE ?_ (by with_reducible assumption)))); go_split_ands))
  go_split_ands
  go_wp2_with fail
  all_goals try go_region
  all_goals (go_wp2_with fail)
  ((try simp only [Exit.inBlock, Exit.then]); first | refine bodyPost_ret (results_none rfl _ _ _) rfl ?_ | refine bodyPost_end (results_none rfl _ _ _) rfl ?_)
  exact ⟨some ⟨lb, 0, none⟩, c, rfl, (by repeat (first | with_reducible exact Below.refl _ _ | with_reducible assumption | with_reducible refine ExtD ?_ | with_reducible refine ExtDN ?_ | with_reducible refine ExtA ?_ | (with_reducible refine ExtR ?_ ?_; (first | omega | (dsimp only; omega) | (simp; done) | (simp; omega))) | (with_reducible refine ExtS ?_ ?_; (first | omega | (dsimp only; omega) | (simp; done) | (simp; omega))) | with_reducible refine Ext.tr ?_ (by with_reducible assumption))), (by apply Blk_eq; (· (repeat (first | with_reducible exact Hb.out | with_reducible assumption | with_reducible apply BlkD | with_reducible apply BlkDN | with_reducible apply BlkA | with_reducible apply BlkS | (with_reducible apply BlkF; rotate_left; (first | omega | (dsimp only; omega) | (simp; done) | (simp; omega))) | (with_reducible apply BlkE; rotate_left; with_reducible assumption)))); (· rfl)), HSet.out _ (by repeat (first | with_reducible assumption | with_reducible exact Ho.out | with_reducible refine OwnD ?_ | with_reducible refine OwnDN ?_ | with_reducible refine OwnA ?_ | with_reducible refine OwnSt HN.out ?_ | with_reducible refine OwnLs.mono ?_ (by with_reducible assumption)))⟩
set_option maxRecDepth 100000 in
set_option maxHeartbeats 4000000 in
theorem add_no (s : St) (e : Ev) (A : Option Addr) (c g : Nat) (W0 w : World) (hx : Ext W0 w) (hg : W0.heap.size ≤ g) (hb : Blk w g 25 (stcells s A c)) (ho : OwnLs w W0.heap.size A s.lines c) (hlen : s.lines.length ≤ 16) (hr : risesB (-1) s.lines = true) (he : EOk e) (ht : thereB e.item s.lines = false) :
    Calls Tryz.prog 47 #[.pointer (some ⟨g, 0, none⟩), .agg (evcells e)] w (TurnPost W0 g { s with lines := more e.item e.price e.qty s.lines }) := by
  have hM := more_not (price := e.price) (q := e.qty) ht
  have hPn := pos_le e.item s.lines
  have K := Lib.hid fun W (h : OwnLs W W0.heap.size A s.lines c) => find_any s e.item A c W h.rd hlen hr he.item
  rw [ht] at K
  have Ho := Lib.hid ho
  have Hb := Lib.hid hb
  have HN := Lib.hid (own_apart ho hb)
  have hgw := hb.lt
  have HOw := Lib.hid (World.ownsRow.lt ho)
  have KI := Lib.hid fun W (h : OwnLs W W0.heap.size A s.lines c) (vb : Nat) (hv : Blk W vb 44 (lncells ⟨e.item, e.price, e.qty, 0⟩)) (hvb : some vb ≠ (Value.slice A s.lines.length c).ownBlock) (hbase : W0.heap.size ≤ W.heap.size) => insert_any s.lines ⟨e.item, e.price, e.qty, 0⟩ (posOf e.item s.lines) A c W0.heap.size W h hlen hPn vb hv hvb hbase
  rw [← hM] at KI
  clear ho hr he ht hM
  generalize posOf e.item s.lines = P at *
  generalize more e.item e.price e.qty s.lines = ls2 at *
  obtain ⟨order, status, prior, cur, tax, ls, paid, refunded, events, refused, stamp, who⟩ := s
  obtain ⟨ek, eo, ei, eq, ep, ec, et, ew, es, en⟩ := e
  unfold stcells evcells lncells at *
  unfold TurnPost stcells
  dsimp only at *
  have Hnn : Hid (∃ n, n = ls.length) := Lib.hid ⟨_, rfl⟩
  obtain ⟨n, hnn⟩ := Hnn.out
  rw [← hnn] at Hb hb K hlen hPn KI HOw
  clear hnn Hnn
  have HS := Lib.hid (fun w' (h1 : Ext W0 w') (h2 : Blk w' g 25 #[.int .i64 order, .int .i64 status, .int .i64 prior, .int .i64 cur, .int .i64 tax, .slice A n c, .int .i64 paid, .int .i64 refunded, .int .i64 events, .int .i64 refused, .int .i64 stamp, .string who]) (h3 : OwnLs w' W0.heap.size A ls c) (h4 : Blk w' w.heap.size 38 #[.int .i64 ek, .int .i64 eo, .int .i64 ei, .int .i64 eq, .int .i64 ep, .int .i64 ec, .int .i64 et, .string ew, .int .i64 es, .string en]) => (⟨h1, h2, h3, h4, h2.frozen 1, h2.frozen 5, h2.cell 0, h2.cell 1, h2.cell 2, h2.cell 3, h2.cell 4, h2.cell 5, h2.cell 6, h2.cell 7, h2.cell 8, h2.cell 9, h2.cell 10, h2.cell 11, h4.cell 2, h4.cell 3, h4.cell 4⟩ : (fun w' : World => Ext W0 w' ∧ Blk w' g 25 #[.int .i64 order, .int .i64 status, .int .i64 prior, .int .i64 cur, .int .i64 tax, .slice A n c, .int .i64 paid, .int .i64 refunded, .int .i64 events, .int .i64 refused, .int .i64 stamp, .string who] ∧ OwnLs w' W0.heap.size A ls c ∧ Blk w' w.heap.size 38 #[.int .i64 ek, .int .i64 eo, .int .i64 ei, .int .i64 eq, .int .i64 ep, .int .i64 ec, .int .i64 et, .string ew, .int .i64 es, .string en] ∧ w'.frozen? ⟨g, 1, none⟩ = false ∧ w'.frozen? ⟨g, 5, none⟩ = false ∧ w'.cell? ⟨g, 0, none⟩ = some (.int .i64 order) ∧ w'.cell? ⟨g, 1, none⟩ = some (.int .i64 status) ∧ w'.cell? ⟨g, 2, none⟩ = some (.int .i64 prior) ∧ w'.cell? ⟨g, 3, none⟩ = some (.int .i64 cur) ∧ w'.cell? ⟨g, 4, none⟩ = some (.int .i64 tax) ∧ w'.cell? ⟨g, 5, none⟩ = some (.slice A n c) ∧ w'.cell? ⟨g, 6, none⟩ = some (.int .i64 paid) ∧ w'.cell? ⟨g, 7, none⟩ = some (.int .i64 refunded) ∧ w'.cell? ⟨g, 8, none⟩ = some (.int .i64 events) ∧ w'.cell? ⟨g, 9, none⟩ = some (.int .i64 refused) ∧ w'.cell? ⟨g, 10, none⟩ = some (.int .i64 stamp) ∧ w'.cell? ⟨g, 11, none⟩ = some (.string who) ∧ w'.cell? ⟨w.heap.size, 2, none⟩ = some (.int .i64 ei) ∧ w'.cell? ⟨w.heap.size, 3, none⟩ = some (.int .i64 eq) ∧ w'.cell? ⟨w.heap.size, 4, none⟩ = some (.int .i64 ep)) w'))
  (have a0 : World.cell? w ⟨g, 0, none⟩ = some (.int .i64 order) := Blk.cell hb 0; have a1 : World.cell? w ⟨g, 1, none⟩ = some (.int .i64 status) := Blk.cell hb 1; have a2 : World.cell? w ⟨g, 2, none⟩ = some (.int .i64 prior) := Blk.cell hb 2; have a3 : World.cell? w ⟨g, 3, none⟩ = some (.int .i64 cur) := Blk.cell hb 3; have a4 : World.cell? w ⟨g, 4, none⟩ = some (.int .i64 tax) := Blk.cell hb 4; have a5 : World.cell? w ⟨g, 5, none⟩ = some _ := Blk.cell hb 5; have a6 : World.cell? w ⟨g, 6, none⟩ = some (.int .i64 paid) := Blk.cell hb 6; have a7 : World.cell? w ⟨g, 7, none⟩ = some (.int .i64 refunded) := Blk.cell hb 7; have a8 : World.cell? w ⟨g, 8, none⟩ = some (.int .i64 events) := Blk.cell hb 8; have a9 : World.cell? w ⟨g, 9, none⟩ = some (.int .i64 refused) := Blk.cell hb 9; have a10 : World.cell? w ⟨g, 10, none⟩ = some (.int .i64 stamp) := Blk.cell hb 10; have a11 : World.cell? w ⟨g, 11, none⟩ = some (.string who) := Blk.cell hb 11)
  clear hb
  go_enter Tryz.func47, Tryz.ntmps47
  go_wp2_with fail
  go_region_held3 (fun w' : World => Ext W0 w' ∧ Blk w' g 25 #[.int .i64 order, .int .i64 status, .int .i64 prior, .int .i64 cur, .int .i64 tax, .slice A n c, .int .i64 paid, .int .i64 refunded, .int .i64 events, .int .i64 refused, .int .i64 stamp, .string who] ∧ OwnLs w' W0.heap.size A ls c ∧ Blk w' w.heap.size 38 #[.int .i64 ek, .int .i64 eo, .int .i64 ei, .int .i64 eq, .int .i64 ep, .int .i64 ec, .int .i64 et, .string ew, .int .i64 es, .string en] ∧ w'.frozen? ⟨g, 1, none⟩ = false ∧ w'.frozen? ⟨g, 5, none⟩ = false ∧ w'.cell? ⟨g, 0, none⟩ = some (.int .i64 order) ∧ w'.cell? ⟨g, 1, none⟩ = some (.int .i64 status) ∧ w'.cell? ⟨g, 2, none⟩ = some (.int .i64 prior) ∧ w'.cell? ⟨g, 3, none⟩ = some (.int .i64 cur) ∧ w'.cell? ⟨g, 4, none⟩ = some (.int .i64 tax) ∧ w'.cell? ⟨g, 5, none⟩ = some (.slice A n c) ∧ w'.cell? ⟨g, 6, none⟩ = some (.int .i64 paid) ∧ w'.cell? ⟨g, 7, none⟩ = some (.int .i64 refunded) ∧ w'.cell? ⟨g, 8, none⟩ = some (.int .i64 events) ∧ w'.cell? ⟨g, 9, none⟩ = some (.int .i64 refused) ∧ w'.cell? ⟨g, 10, none⟩ = some (.int .i64 stamp) ∧ w'.cell? ⟨g, 11, none⟩ = some (.string who) ∧ w'.cell? ⟨w.heap.size, 2, none⟩ = some (.int .i64 ei) ∧ w'.cell? ⟨w.heap.size, 3, none⟩ = some (.int .i64 eq) ∧ w'.cell? ⟨w.heap.size, 4, none⟩ = some (.int .i64 ep)) (exact HS.out _ (by repeat (first | with_reducible exact Below.refl _ _ | with_reducible assumption | with_reducible refine ExtD ?_ | with_reducible refine ExtDN ?_ | with_reducible refine ExtA ?_ | (with_reducible refine ExtR ?_ ?_; (first | omega | (dsimp only; omega) | (simp; done) | (simp; omega))) | (with_reducible refine ExtS ?_ ?_; (first | omega | (dsimp only; omega) | (simp; done) | (simp; omega))) | with_reducible refine Ext.tr ?_ (by with_reducible assumption))) (by apply Blk_eq; (· (repeat (first | with_reducible exact Hb.out | with_reducible assumption | with_reducible apply BlkD | with_reducible apply BlkDN | with_reducible apply BlkA | with_reducible apply BlkS | (with_reducible apply BlkF; rotate_left; (first | omega | (dsimp only; omega) | (simp; done) | (simp; omega))) | (with_reducible apply BlkE; rotate_left; with_reducible assumption)))); (· rfl)) (by repeat (first | with_reducible assumption | with_reducible exact Ho.out | with_reducible refine OwnD ?_ | with_reducible refine OwnDN ?_ | with_reducible refine OwnA ?_ | with_reducible refine OwnSt HN.out ?_ | with_reducible refine OwnLs.mono ?_ (by with_reducible assumption))) (by repeat (first | with_reducible assumption | (with_reducible refine BlkN ?_; (first | rfl | (first | omega | (dsimp only; omega) | (simp; done) | (simp; omega)))) | with_reducible refine BlkD ?_ | with_reducible refine BlkDN ?_ | with_reducible refine BlkA ?_ | (with_reducible refine BlkF ?_ ?_; (first | omega | (dsimp only; omega) | (simp; done) | (simp; omega))) | with_reducible refine BlkE ?_ (by with_reducible assumption)))) ((go_at_call 71; (with_reducible refine (K.out _ (by repeat (first | with_reducible assumption | with_reducible exact Ho.out | with_reducible refine OwnD ?_ | with_reducible refine OwnDN ?_ | with_reducible refine OwnA ?_ | with_reducible refine OwnSt HN.out ?_ | with_reducible refine OwnLs.mono ?_ (by with_reducible assumption)))).mono ?_); rintro e w1 ⟨rfl, hx1⟩; have h3 := (HS.out w1 (by repeat (first | with_reducible exact Below.refl _ _ | with_reducible assumption | with_reducible refine ExtD ?_ | with_reducible refine ExtDN ?_ | with_reducible refine ExtA ?_ | (with_reducible refine ExtR ?_ ?_; (first | omega | (dsimp only; omega) | (simp; done) | (simp; omega))) | (with_reducible refine ExtS ?_ ?_; (first | omega | (dsimp only; omega) | (simp; done) | (simp; omega))) | with_reducible refine Ext.tr ?_ (by with_reducible assumption))) (by apply Blk_eq; (· (repeat (first | with_reducible exact Hb.out | with_reducible assumption | with_reducible apply BlkD | with_reducible apply BlkDN | with_reducible apply BlkA | with_reducible apply BlkS | (with_reducible apply BlkF; rotate_left; (first | omega | (dsimp only; omega) | (simp; done) | (simp; omega))) | (with_reducible apply BlkE; rotate_left; with_reducible assumption)))); (· rfl)) (OwnLs.mono (by repeat (first | with_reducible assumption | with_reducible exact Ho.out | with_reducible refine OwnD ?_ | with_reducible refine OwnDN ?_ | with_reducible refine OwnA ?_ | with_reducible refine OwnSt HN.out ?_ | with_reducible refine OwnLs.mono ?_ (by with_reducible assumption))) hx1) (by repeat (first | with_reducible assumption | (with_reducible refine BlkN ?_; (first | rfl | (first | omega | (dsimp only; omega) | (simp; done) | (simp; omega)))) | with_reducible refine BlkD ?_ | with_reducible refine BlkDN ?_ | with_reducible refine BlkA ?_ | (with_reducible refine BlkF ?_ ?_; (first | omega | (dsimp only; omega) | (simp; done) | (simp; omega))) | with_reducible refine BlkE ?_ (by with_reducible assumption)))); go_split_ands))
  go_split_ands
  go_wp2_with fail
  have hvlt : w.heap.size < w1.heap.size := Blk.lt (by assumption)
  have hW0lt : W0.heap.size ≤ w1.heap.size := Below.size (by assumption)
  have hB1 : Blk ((w1.alloc (.cells #[.int .i64 ei, .int .i64 ep, .int .i64 eq, .int .i64 0] 44)).drew) g 25 #[.int .i64 order, .int .i64 status, .int .i64 prior, .int .i64 cur, .int .i64 tax, .slice A n c, .int .i64 paid, .int .i64 refunded, .int .i64 events, .int .i64 refused, .int .i64 stamp, .string who] := (by repeat (first | with_reducible assumption | (with_reducible refine BlkN ?_; (first | rfl | (first | omega | (dsimp only; omega) | (simp; done) | (simp; omega)))) | with_reducible refine BlkD ?_ | with_reducible refine BlkDN ?_ | with_reducible refine BlkA ?_ | (with_reducible refine BlkF ?_ ?_; (first | omega | (dsimp only; omega) | (simp; done) | (simp; omega))) | with_reducible refine BlkE ?_ (by with_reducible assumption)))
  have hvne : some w1.heap.size ≠ (Value.slice A n c).ownBlock := fun h => by
    have := (HOw.out _ h.symm).2
    omega
  have K2 := KI.out ((w1.alloc (.cells #[.int .i64 ei, .int .i64 ep, .int .i64 eq, .int .i64 0] 44)).drew) (by repeat (first | with_reducible assumption | with_reducible exact Ho.out | with_reducible refine OwnD ?_ | with_reducible refine OwnDN ?_ | with_reducible refine OwnA ?_ | with_reducible refine OwnSt HN.out ?_ | with_reducible refine OwnLs.mono ?_ (by with_reducible assumption))) w1.heap.size (by repeat (first | with_reducible assumption | (with_reducible refine BlkN ?_; (first | rfl | (first | omega | (dsimp only; omega) | (simp; done) | (simp; omega)))) | with_reducible refine BlkD ?_ | with_reducible refine BlkDN ?_ | with_reducible refine BlkA ?_ | (with_reducible refine BlkF ?_ ?_; (first | omega | (dsimp only; omega) | (simp; done) | (simp; omega))) | with_reducible refine BlkE ?_ (by with_reducible assumption))) hvne (by simp; omega)
  have hX1 : Ext W0 ((w1.alloc (.cells #[.int .i64 ei, .int .i64 ep, .int .i64 eq, .int .i64 0] 44)).drew) := (by repeat (first | with_reducible exact Below.refl _ _ | with_reducible assumption | with_reducible refine ExtD ?_ | with_reducible refine ExtDN ?_ | with_reducible refine ExtA ?_ | (with_reducible refine ExtR ?_ ?_; (first | omega | (dsimp only; omega) | (simp; done) | (simp; omega))) | (with_reducible refine ExtS ?_ ?_; (first | omega | (dsimp only; omega) | (simp; done) | (simp; omega))) | with_reducible refine Ext.tr ?_ (by with_reducible assumption)))
  have hE1 : Blk ((w1.alloc (.cells #[.int .i64 ei, .int .i64 ep, .int .i64 eq, .int .i64 0] 44)).drew) w.heap.size 38 #[.int .i64 ek, .int .i64 eo, .int .i64 ei, .int .i64 eq, .int .i64 ep, .int .i64 ec, .int .i64 et, .string ew, .int .i64 es, .string en] := (by repeat (first | with_reducible assumption | (with_reducible refine BlkN ?_; (first | rfl | (first | omega | (dsimp only; omega) | (simp; done) | (simp; omega)))) | with_reducible refine BlkD ?_ | with_reducible refine BlkDN ?_ | with_reducible refine BlkA ?_ | (with_reducible refine BlkF ?_ ?_; (first | omega | (dsimp only; omega) | (simp; done) | (simp; omega))) | with_reducible refine BlkE ?_ (by with_reducible assumption)))
  have hA5 : ∀ ob, (w1.alloc ob).cell? ⟨g, 5, none⟩ = some (.slice A n c) := fun ob => by
    have : Blk (w1.alloc ob) g 25 #[.int .i64 order, .int .i64 status, .int .i64 prior, .int .i64 cur, .int .i64 tax, .slice A n c, .int .i64 paid, .int .i64 refunded, .int .i64 events, .int .i64 refused, .int .i64 stamp, .string who] := (by repeat (first | with_reducible assumption | (with_reducible refine BlkN ?_; (first | rfl | (first | omega | (dsimp only; omega) | (simp; done) | (simp; omega)))) | with_reducible refine BlkD ?_ | with_reducible refine BlkDN ?_ | with_reducible refine BlkA ?_ | (with_reducible refine BlkF ?_ ?_; (first | omega | (dsimp only; omega) | (simp; done) | (simp; omega))) | with_reducible refine BlkE ?_ (by with_reducible assumption)))
    exact this.cell 5
  have hne2 : some w.heap.size ≠ (Value.slice A n c).ownBlock := fun h => by
    have := (HOw.out _ h.symm).2
    omega
  clear a0 a1 a2 a3 a4 a6 a7 a8 a9 a10 a11 HS K KI  hlen hPn
  have mixed : Tryz.prog.follows Departure.mixedOrders = true := by kernel_rfl
  go_region_law_o (refine step_callR rfl _ rfl 72 _ Tryz.func72 (by kernel_rfl) (by kernel_rfl) _ _ rfl #[.slice A n c, .int .i64 (P : Nat), .slice (some ⟨w1.heap.size, 0, none⟩) 1 1] (by simp [Act.eval, Act.put]) _ K2 ?_; rintro e w2 ⟨A2, c2, rfl, hg2, ho2⟩; refine ⟨_, rfl, ?_⟩; have b2 := BlkG hB1 hg2 (fun h => HN.out _ _ h.symm); have z1 : w2.cell? ⟨g, 5, none⟩ = some (.slice A n c) := b2.cell 5; have z2 := b2.frozen 5; have hE2 := BlkG hE1 hg2 hne2; have hX2 := Ext.grown hX1 hg2 (fun r hr => (HOw.out r hr).1))
  all_goals
    go_wp2_with fail
    ((try simp only [Exit.inBlock, Exit.then]); first | refine bodyPost_ret (results_none rfl _ _ _) rfl ?_ | refine bodyPost_end (results_none rfl _ _ _) rfl ?_)
    have hap := own_apart ho2 b2
    exact ⟨A2, c2, rfl, (by repeat (first | with_reducible exact Below.refl _ _ | with_reducible assumption | with_reducible refine ExtD ?_ | with_reducible refine ExtDN ?_ | with_reducible refine ExtA ?_ | (with_reducible refine ExtR ?_ ?_; (first | omega | (dsimp only; omega) | (simp; done) | (simp; omega))) | (with_reducible refine ExtS ?_ ?_; (first | omega | (dsimp only; omega) | (simp; done) | (simp; omega))) | with_reducible refine Ext.tr ?_ (by with_reducible assumption))), (by apply Blk_eq; (· (repeat (first | with_reducible exact Hb.out | with_reducible assumption | with_reducible apply BlkD | with_reducible apply BlkDN | with_reducible apply BlkA | with_reducible apply BlkS | (with_reducible apply BlkF; rotate_left; (first | omega | (dsimp only; omega) | (simp; done) | (simp; omega))) | (with_reducible apply BlkE; rotate_left; with_reducible assumption)))); (· rfl)), OwnSt hap ho2⟩
end Go.Proofs.YtjomgppbialeoaaGreat
