/-
  The walks of the rules that leave the lines alone.
-/
/-
  The walk of the rule of a payment.
-/
import Derived.Test.YtjomgppbialeoaaGreatOrdM
namespace Go.Proofs.YtjomgppbialeoaaGreat
open Go.RowKit
set_option linter.unusedVariables false
set_option linter.unusedSimpArgs false
/-- What a rule does to a state of its own, in block g. -/
def TurnPost (W0 : World) (g : Nat) (s2 : St) (e : Ending) (w' : World) : Prop :=
  ∃ A c, e = .returned (.tuple #[]) ∧ Ext W0 w' ∧ Blk w' g 25 (stcells s2 A c) ∧ OwnLs w' W0.heap.size A s2.lines c
set_option maxRecDepth 100000 in
set_option maxHeartbeats 1000000 in
theorem place_any (s : St) (e : Ev) (A : Option Addr) (c g : Nat) (W0 w : World) (hx : Ext W0 w) (hg : W0.heap.size ≤ g) (hb : Blk w g 25 (stcells s A c)) (ho : OwnLs w W0.heap.size A s.lines c) :
    Calls Tryz.prog 46 #[.pointer (some ⟨g, 0, none⟩), .agg (evcells e)] w (TurnPost W0 g { s with status := 1, cur := e.cur, tax := e.tax }) := by
  have Ho := Lib.hid ho
  have Hb := Lib.hid hb
  have HN := Lib.hid (own_apart ho hb)
  have hgw := hb.lt
  clear ho
  obtain ⟨order, status, prior, cur, tax, ls, paid, refunded, events, refused, stamp, who⟩ := s
  obtain ⟨ek, eo, ei, eq, ep, ec, et, ew, es, en⟩ := e
  unfold stcells evcells at *
  unfold TurnPost stcells
  dsimp only at *
  generalize hnn : ls.length = n at *
  (have a0 : World.cell? w ⟨g, 0, none⟩ = some (.int .i64 order) := Blk.cell hb 0; have a1 : World.cell? w ⟨g, 1, none⟩ = some (.int .i64 status) := Blk.cell hb 1; have a2 : World.cell? w ⟨g, 2, none⟩ = some (.int .i64 prior) := Blk.cell hb 2; have a3 : World.cell? w ⟨g, 3, none⟩ = some (.int .i64 cur) := Blk.cell hb 3; have a4 : World.cell? w ⟨g, 4, none⟩ = some (.int .i64 tax) := Blk.cell hb 4; have a5 : World.cell? w ⟨g, 5, none⟩ = some _ := Blk.cell hb 5; have a6 : World.cell? w ⟨g, 6, none⟩ = some (.int .i64 paid) := Blk.cell hb 6; have a7 : World.cell? w ⟨g, 7, none⟩ = some (.int .i64 refunded) := Blk.cell hb 7; have a8 : World.cell? w ⟨g, 8, none⟩ = some (.int .i64 events) := Blk.cell hb 8; have a9 : World.cell? w ⟨g, 9, none⟩ = some (.int .i64 refused) := Blk.cell hb 9; have a10 : World.cell? w ⟨g, 10, none⟩ = some (.int .i64 stamp) := Blk.cell hb 10; have a11 : World.cell? w ⟨g, 11, none⟩ = some (.string who) := Blk.cell hb 11)
  (have f1 : World.frozen? w ⟨g, 1, none⟩ = false := Blk.frozen hb 1; have f2 : World.frozen? w ⟨g, 2, none⟩ = false := Blk.frozen hb 2; have f3 : World.frozen? w ⟨g, 3, none⟩ = false := Blk.frozen hb 3; have f4 : World.frozen? w ⟨g, 4, none⟩ = false := Blk.frozen hb 4; have f5 : World.frozen? w ⟨g, 5, none⟩ = false := Blk.frozen hb 5; have f6 : World.frozen? w ⟨g, 6, none⟩ = false := Blk.frozen hb 6; have f7 : World.frozen? w ⟨g, 7, none⟩ = false := Blk.frozen hb 7; have f8 : World.frozen? w ⟨g, 8, none⟩ = false := Blk.frozen hb 8; have f9 : World.frozen? w ⟨g, 9, none⟩ = false := Blk.frozen hb 9; have f10 : World.frozen? w ⟨g, 10, none⟩ = false := Blk.frozen hb 10; have f11 : World.frozen? w ⟨g, 11, none⟩ = false := Blk.frozen hb 11)
  clear hb
  go_enter Tryz.func46, Tryz.ntmps46
  go_wp2_with fail
  all_goals try go_region
  all_goals (go_wp2_with fail)
  ((try simp only [Exit.inBlock, Exit.then]); first | refine bodyPost_ret (results_none rfl _ _ _) rfl ?_ | refine bodyPost_end (results_none rfl _ _ _) rfl ?_)
  subst hnn
  refine ⟨A, c, rfl, (by repeat (first | with_reducible exact Below.refl _ _ | with_reducible assumption | with_reducible refine ExtD ?_ | with_reducible refine ExtDN ?_ | with_reducible refine ExtA ?_ | (with_reducible refine ExtR ?_ ?_; (first | omega | (dsimp only; omega) | (simp; done) | (simp; omega))) | (with_reducible refine ExtS ?_ ?_; (first | omega | (dsimp only; omega) | (simp; done) | (simp; omega))) | with_reducible refine Ext.tr ?_ (by with_reducible assumption))), (by apply Blk_eq; (· (repeat (first | with_reducible exact Hb.out | with_reducible assumption | with_reducible apply BlkD | with_reducible apply BlkDN | with_reducible apply BlkA | with_reducible apply BlkS | (with_reducible apply BlkF; rotate_left; (first | omega | (dsimp only; omega) | (simp; done) | (simp; omega))) | (with_reducible apply BlkE; rotate_left; with_reducible assumption)))); (· rfl)), (by repeat (first | with_reducible assumption | with_reducible exact Ho.out | with_reducible refine OwnD ?_ | with_reducible refine OwnDN ?_ | with_reducible refine OwnA ?_ | with_reducible refine OwnSt HN.out ?_ | with_reducible refine OwnLs.mono ?_ (by with_reducible assumption)))⟩
set_option maxRecDepth 100000 in
set_option maxHeartbeats 1000000 in
theorem cancel_any (s : St) (e : Ev) (A : Option Addr) (c g : Nat) (W0 w : World) (hx : Ext W0 w) (hg : W0.heap.size ≤ g) (hb : Blk w g 25 (stcells s A c)) (ho : OwnLs w W0.heap.size A s.lines c) :
    Calls Tryz.prog 50 #[.pointer (some ⟨g, 0, none⟩), .agg (evcells e)] w (TurnPost W0 g { s with status := 5, prior := 0 }) := by
  have Ho := Lib.hid ho
  have Hb := Lib.hid hb
  have HN := Lib.hid (own_apart ho hb)
  have hgw := hb.lt
  clear ho
  obtain ⟨order, status, prior, cur, tax, ls, paid, refunded, events, refused, stamp, who⟩ := s
  obtain ⟨ek, eo, ei, eq, ep, ec, et, ew, es, en⟩ := e
  unfold stcells evcells at *
  unfold TurnPost stcells
  dsimp only at *
  generalize hnn : ls.length = n at *
  (have a0 : World.cell? w ⟨g, 0, none⟩ = some (.int .i64 order) := Blk.cell hb 0; have a1 : World.cell? w ⟨g, 1, none⟩ = some (.int .i64 status) := Blk.cell hb 1; have a2 : World.cell? w ⟨g, 2, none⟩ = some (.int .i64 prior) := Blk.cell hb 2; have a3 : World.cell? w ⟨g, 3, none⟩ = some (.int .i64 cur) := Blk.cell hb 3; have a4 : World.cell? w ⟨g, 4, none⟩ = some (.int .i64 tax) := Blk.cell hb 4; have a5 : World.cell? w ⟨g, 5, none⟩ = some _ := Blk.cell hb 5; have a6 : World.cell? w ⟨g, 6, none⟩ = some (.int .i64 paid) := Blk.cell hb 6; have a7 : World.cell? w ⟨g, 7, none⟩ = some (.int .i64 refunded) := Blk.cell hb 7; have a8 : World.cell? w ⟨g, 8, none⟩ = some (.int .i64 events) := Blk.cell hb 8; have a9 : World.cell? w ⟨g, 9, none⟩ = some (.int .i64 refused) := Blk.cell hb 9; have a10 : World.cell? w ⟨g, 10, none⟩ = some (.int .i64 stamp) := Blk.cell hb 10; have a11 : World.cell? w ⟨g, 11, none⟩ = some (.string who) := Blk.cell hb 11)
  (have f1 : World.frozen? w ⟨g, 1, none⟩ = false := Blk.frozen hb 1; have f2 : World.frozen? w ⟨g, 2, none⟩ = false := Blk.frozen hb 2; have f3 : World.frozen? w ⟨g, 3, none⟩ = false := Blk.frozen hb 3; have f4 : World.frozen? w ⟨g, 4, none⟩ = false := Blk.frozen hb 4; have f5 : World.frozen? w ⟨g, 5, none⟩ = false := Blk.frozen hb 5; have f6 : World.frozen? w ⟨g, 6, none⟩ = false := Blk.frozen hb 6; have f7 : World.frozen? w ⟨g, 7, none⟩ = false := Blk.frozen hb 7; have f8 : World.frozen? w ⟨g, 8, none⟩ = false := Blk.frozen hb 8; have f9 : World.frozen? w ⟨g, 9, none⟩ = false := Blk.frozen hb 9; have f10 : World.frozen? w ⟨g, 10, none⟩ = false := Blk.frozen hb 10; have f11 : World.frozen? w ⟨g, 11, none⟩ = false := Blk.frozen hb 11)
  clear hb
  go_enter Tryz.func50, Tryz.ntmps50
  go_wp2_with fail
  all_goals try go_region
  all_goals (go_wp2_with fail)
  ((try simp only [Exit.inBlock, Exit.then]); first | refine bodyPost_ret (results_none rfl _ _ _) rfl ?_ | refine bodyPost_end (results_none rfl _ _ _) rfl ?_)
  subst hnn
  refine ⟨A, c, rfl, (by repeat (first | with_reducible exact Below.refl _ _ | with_reducible assumption | with_reducible refine ExtD ?_ | with_reducible refine ExtDN ?_ | with_reducible refine ExtA ?_ | (with_reducible refine ExtR ?_ ?_; (first | omega | (dsimp only; omega) | (simp; done) | (simp; omega))) | (with_reducible refine ExtS ?_ ?_; (first | omega | (dsimp only; omega) | (simp; done) | (simp; omega))) | with_reducible refine Ext.tr ?_ (by with_reducible assumption))), (by apply Blk_eq; (· (repeat (first | with_reducible exact Hb.out | with_reducible assumption | with_reducible apply BlkD | with_reducible apply BlkDN | with_reducible apply BlkA | with_reducible apply BlkS | (with_reducible apply BlkF; rotate_left; (first | omega | (dsimp only; omega) | (simp; done) | (simp; omega))) | (with_reducible apply BlkE; rotate_left; with_reducible assumption)))); (· rfl)), (by repeat (first | with_reducible assumption | with_reducible exact Ho.out | with_reducible refine OwnD ?_ | with_reducible refine OwnDN ?_ | with_reducible refine OwnA ?_ | with_reducible refine OwnSt HN.out ?_ | with_reducible refine OwnLs.mono ?_ (by with_reducible assumption)))⟩
set_option maxRecDepth 100000 in
set_option maxHeartbeats 1000000 in
theorem refund_any (s : St) (e : Ev) (A : Option Addr) (c g : Nat) (W0 w : World) (hx : Ext W0 w) (hg : W0.heap.size ≤ g) (hb : Blk w g 25 (stcells s A c)) (ho : OwnLs w W0.heap.size A s.lines c) (hr : -4611686018427387904 ≤ s.refunded + e.price ∧ s.refunded + e.price ≤ 4611686018427387904) :
    Calls Tryz.prog 52 #[.pointer (some ⟨g, 0, none⟩), .agg (evcells e)] w (TurnPost W0 g { s with refunded := s.refunded + e.price }) := by
  have Ho := Lib.hid ho
  have Hb := Lib.hid hb
  have HN := Lib.hid (own_apart ho hb)
  have hgw := hb.lt
  clear ho
  obtain ⟨order, status, prior, cur, tax, ls, paid, refunded, events, refused, stamp, who⟩ := s
  obtain ⟨ek, eo, ei, eq, ep, ec, et, ew, es, en⟩ := e
  unfold stcells evcells at *
  unfold TurnPost stcells
  dsimp only at *
  generalize hnn : ls.length = n at *
  have hw : IntKind.i64.wrap (refunded + ep) = refunded + ep := by rw [IntKind.wrap_i64]; omega
  (have a0 : World.cell? w ⟨g, 0, none⟩ = some (.int .i64 order) := Blk.cell hb 0; have a1 : World.cell? w ⟨g, 1, none⟩ = some (.int .i64 status) := Blk.cell hb 1; have a2 : World.cell? w ⟨g, 2, none⟩ = some (.int .i64 prior) := Blk.cell hb 2; have a3 : World.cell? w ⟨g, 3, none⟩ = some (.int .i64 cur) := Blk.cell hb 3; have a4 : World.cell? w ⟨g, 4, none⟩ = some (.int .i64 tax) := Blk.cell hb 4; have a5 : World.cell? w ⟨g, 5, none⟩ = some _ := Blk.cell hb 5; have a6 : World.cell? w ⟨g, 6, none⟩ = some (.int .i64 paid) := Blk.cell hb 6; have a7 : World.cell? w ⟨g, 7, none⟩ = some (.int .i64 refunded) := Blk.cell hb 7; have a8 : World.cell? w ⟨g, 8, none⟩ = some (.int .i64 events) := Blk.cell hb 8; have a9 : World.cell? w ⟨g, 9, none⟩ = some (.int .i64 refused) := Blk.cell hb 9; have a10 : World.cell? w ⟨g, 10, none⟩ = some (.int .i64 stamp) := Blk.cell hb 10; have a11 : World.cell? w ⟨g, 11, none⟩ = some (.string who) := Blk.cell hb 11)
  (have f1 : World.frozen? w ⟨g, 1, none⟩ = false := Blk.frozen hb 1; have f2 : World.frozen? w ⟨g, 2, none⟩ = false := Blk.frozen hb 2; have f3 : World.frozen? w ⟨g, 3, none⟩ = false := Blk.frozen hb 3; have f4 : World.frozen? w ⟨g, 4, none⟩ = false := Blk.frozen hb 4; have f5 : World.frozen? w ⟨g, 5, none⟩ = false := Blk.frozen hb 5; have f6 : World.frozen? w ⟨g, 6, none⟩ = false := Blk.frozen hb 6; have f7 : World.frozen? w ⟨g, 7, none⟩ = false := Blk.frozen hb 7; have f8 : World.frozen? w ⟨g, 8, none⟩ = false := Blk.frozen hb 8; have f9 : World.frozen? w ⟨g, 9, none⟩ = false := Blk.frozen hb 9; have f10 : World.frozen? w ⟨g, 10, none⟩ = false := Blk.frozen hb 10; have f11 : World.frozen? w ⟨g, 11, none⟩ = false := Blk.frozen hb 11)
  clear hb
  go_enter Tryz.func52, Tryz.ntmps52
  go_wp2_with fail
  all_goals try go_region
  all_goals (go_wp2_with fail)
  ((try simp only [Exit.inBlock, Exit.then]); first | refine bodyPost_ret (results_none rfl _ _ _) rfl ?_ | refine bodyPost_end (results_none rfl _ _ _) rfl ?_)
  subst hnn
  refine ⟨A, c, rfl, (by repeat (first | with_reducible exact Below.refl _ _ | with_reducible assumption | with_reducible refine ExtD ?_ | with_reducible refine ExtDN ?_ | with_reducible refine ExtA ?_ | (with_reducible refine ExtR ?_ ?_; (first | omega | (dsimp only; omega) | (simp; done) | (simp; omega))) | (with_reducible refine ExtS ?_ ?_; (first | omega | (dsimp only; omega) | (simp; done) | (simp; omega))) | with_reducible refine Ext.tr ?_ (by with_reducible assumption))), (by apply Blk_eq; (· (repeat (first | with_reducible exact Hb.out | with_reducible assumption | with_reducible apply BlkD | with_reducible apply BlkDN | with_reducible apply BlkA | with_reducible apply BlkS | (with_reducible apply BlkF; rotate_left; (first | omega | (dsimp only; omega) | (simp; done) | (simp; omega))) | (with_reducible apply BlkE; rotate_left; with_reducible assumption)))); (· rfl)), (by repeat (first | with_reducible assumption | with_reducible exact Ho.out | with_reducible refine OwnD ?_ | with_reducible refine OwnDN ?_ | with_reducible refine OwnA ?_ | with_reducible refine OwnSt HN.out ?_ | with_reducible refine OwnLs.mono ?_ (by with_reducible assumption)))⟩
set_option maxRecDepth 100000 in
set_option maxHeartbeats 1000000 in
theorem hold_any (s : St) (e : Ev) (A : Option Addr) (c g : Nat) (W0 w : World) (hx : Ext W0 w) (hg : W0.heap.size ≤ g) (hb : Blk w g 25 (stcells s A c)) (ho : OwnLs w W0.heap.size A s.lines c) :
    Calls Tryz.prog 53 #[.pointer (some ⟨g, 0, none⟩), .agg (evcells e)] w (TurnPost W0 g { s with prior := s.status, status := 2 }) := by
  have Ho := Lib.hid ho
  have Hb := Lib.hid hb
  have HN := Lib.hid (own_apart ho hb)
  have hgw := hb.lt
  clear ho
  obtain ⟨order, status, prior, cur, tax, ls, paid, refunded, events, refused, stamp, who⟩ := s
  obtain ⟨ek, eo, ei, eq, ep, ec, et, ew, es, en⟩ := e
  unfold stcells evcells at *
  unfold TurnPost stcells
  dsimp only at *
  generalize hnn : ls.length = n at *
  (have a0 : World.cell? w ⟨g, 0, none⟩ = some (.int .i64 order) := Blk.cell hb 0; have a1 : World.cell? w ⟨g, 1, none⟩ = some (.int .i64 status) := Blk.cell hb 1; have a2 : World.cell? w ⟨g, 2, none⟩ = some (.int .i64 prior) := Blk.cell hb 2; have a3 : World.cell? w ⟨g, 3, none⟩ = some (.int .i64 cur) := Blk.cell hb 3; have a4 : World.cell? w ⟨g, 4, none⟩ = some (.int .i64 tax) := Blk.cell hb 4; have a5 : World.cell? w ⟨g, 5, none⟩ = some _ := Blk.cell hb 5; have a6 : World.cell? w ⟨g, 6, none⟩ = some (.int .i64 paid) := Blk.cell hb 6; have a7 : World.cell? w ⟨g, 7, none⟩ = some (.int .i64 refunded) := Blk.cell hb 7; have a8 : World.cell? w ⟨g, 8, none⟩ = some (.int .i64 events) := Blk.cell hb 8; have a9 : World.cell? w ⟨g, 9, none⟩ = some (.int .i64 refused) := Blk.cell hb 9; have a10 : World.cell? w ⟨g, 10, none⟩ = some (.int .i64 stamp) := Blk.cell hb 10; have a11 : World.cell? w ⟨g, 11, none⟩ = some (.string who) := Blk.cell hb 11)
  (have f1 : World.frozen? w ⟨g, 1, none⟩ = false := Blk.frozen hb 1; have f2 : World.frozen? w ⟨g, 2, none⟩ = false := Blk.frozen hb 2; have f3 : World.frozen? w ⟨g, 3, none⟩ = false := Blk.frozen hb 3; have f4 : World.frozen? w ⟨g, 4, none⟩ = false := Blk.frozen hb 4; have f5 : World.frozen? w ⟨g, 5, none⟩ = false := Blk.frozen hb 5; have f6 : World.frozen? w ⟨g, 6, none⟩ = false := Blk.frozen hb 6; have f7 : World.frozen? w ⟨g, 7, none⟩ = false := Blk.frozen hb 7; have f8 : World.frozen? w ⟨g, 8, none⟩ = false := Blk.frozen hb 8; have f9 : World.frozen? w ⟨g, 9, none⟩ = false := Blk.frozen hb 9; have f10 : World.frozen? w ⟨g, 10, none⟩ = false := Blk.frozen hb 10; have f11 : World.frozen? w ⟨g, 11, none⟩ = false := Blk.frozen hb 11)
  clear hb
  go_enter Tryz.func53, Tryz.ntmps53
  go_wp2_with fail
  all_goals try go_region
  all_goals (go_wp2_with fail)
  ((try simp only [Exit.inBlock, Exit.then]); first | refine bodyPost_ret (results_none rfl _ _ _) rfl ?_ | refine bodyPost_end (results_none rfl _ _ _) rfl ?_)
  subst hnn
  refine ⟨A, c, rfl, (by repeat (first | with_reducible exact Below.refl _ _ | with_reducible assumption | with_reducible refine ExtD ?_ | with_reducible refine ExtDN ?_ | with_reducible refine ExtA ?_ | (with_reducible refine ExtR ?_ ?_; (first | omega | (dsimp only; omega) | (simp; done) | (simp; omega))) | (with_reducible refine ExtS ?_ ?_; (first | omega | (dsimp only; omega) | (simp; done) | (simp; omega))) | with_reducible refine Ext.tr ?_ (by with_reducible assumption))), (by apply Blk_eq; (· (repeat (first | with_reducible exact Hb.out | with_reducible assumption | with_reducible apply BlkD | with_reducible apply BlkDN | with_reducible apply BlkA | with_reducible apply BlkS | (with_reducible apply BlkF; rotate_left; (first | omega | (dsimp only; omega) | (simp; done) | (simp; omega))) | (with_reducible apply BlkE; rotate_left; with_reducible assumption)))); (· rfl)), (by repeat (first | with_reducible assumption | with_reducible exact Ho.out | with_reducible refine OwnD ?_ | with_reducible refine OwnDN ?_ | with_reducible refine OwnA ?_ | with_reducible refine OwnSt HN.out ?_ | with_reducible refine OwnLs.mono ?_ (by with_reducible assumption)))⟩
set_option maxRecDepth 100000 in
set_option maxHeartbeats 1000000 in
theorem release_any (s : St) (e : Ev) (A : Option Addr) (c g : Nat) (W0 w : World) (hx : Ext W0 w) (hg : W0.heap.size ≤ g) (hb : Blk w g 25 (stcells s A c)) (ho : OwnLs w W0.heap.size A s.lines c) :
    Calls Tryz.prog 54 #[.pointer (some ⟨g, 0, none⟩), .agg (evcells e)] w (TurnPost W0 g { s with status := s.prior, prior := 0 }) := by
  have Ho := Lib.hid ho
  have Hb := Lib.hid hb
  have HN := Lib.hid (own_apart ho hb)
  have hgw := hb.lt
  clear ho
  obtain ⟨order, status, prior, cur, tax, ls, paid, refunded, events, refused, stamp, who⟩ := s
  obtain ⟨ek, eo, ei, eq, ep, ec, et, ew, es, en⟩ := e
  unfold stcells evcells at *
  unfold TurnPost stcells
  dsimp only at *
  generalize hnn : ls.length = n at *
  (have a0 : World.cell? w ⟨g, 0, none⟩ = some (.int .i64 order) := Blk.cell hb 0; have a1 : World.cell? w ⟨g, 1, none⟩ = some (.int .i64 status) := Blk.cell hb 1; have a2 : World.cell? w ⟨g, 2, none⟩ = some (.int .i64 prior) := Blk.cell hb 2; have a3 : World.cell? w ⟨g, 3, none⟩ = some (.int .i64 cur) := Blk.cell hb 3; have a4 : World.cell? w ⟨g, 4, none⟩ = some (.int .i64 tax) := Blk.cell hb 4; have a5 : World.cell? w ⟨g, 5, none⟩ = some _ := Blk.cell hb 5; have a6 : World.cell? w ⟨g, 6, none⟩ = some (.int .i64 paid) := Blk.cell hb 6; have a7 : World.cell? w ⟨g, 7, none⟩ = some (.int .i64 refunded) := Blk.cell hb 7; have a8 : World.cell? w ⟨g, 8, none⟩ = some (.int .i64 events) := Blk.cell hb 8; have a9 : World.cell? w ⟨g, 9, none⟩ = some (.int .i64 refused) := Blk.cell hb 9; have a10 : World.cell? w ⟨g, 10, none⟩ = some (.int .i64 stamp) := Blk.cell hb 10; have a11 : World.cell? w ⟨g, 11, none⟩ = some (.string who) := Blk.cell hb 11)
  (have f1 : World.frozen? w ⟨g, 1, none⟩ = false := Blk.frozen hb 1; have f2 : World.frozen? w ⟨g, 2, none⟩ = false := Blk.frozen hb 2; have f3 : World.frozen? w ⟨g, 3, none⟩ = false := Blk.frozen hb 3; have f4 : World.frozen? w ⟨g, 4, none⟩ = false := Blk.frozen hb 4; have f5 : World.frozen? w ⟨g, 5, none⟩ = false := Blk.frozen hb 5; have f6 : World.frozen? w ⟨g, 6, none⟩ = false := Blk.frozen hb 6; have f7 : World.frozen? w ⟨g, 7, none⟩ = false := Blk.frozen hb 7; have f8 : World.frozen? w ⟨g, 8, none⟩ = false := Blk.frozen hb 8; have f9 : World.frozen? w ⟨g, 9, none⟩ = false := Blk.frozen hb 9; have f10 : World.frozen? w ⟨g, 10, none⟩ = false := Blk.frozen hb 10; have f11 : World.frozen? w ⟨g, 11, none⟩ = false := Blk.frozen hb 11)
  clear hb
  go_enter Tryz.func54, Tryz.ntmps54
  go_wp2_with fail
  all_goals try go_region
  all_goals (go_wp2_with fail)
  ((try simp only [Exit.inBlock, Exit.then]); first | refine bodyPost_ret (results_none rfl _ _ _) rfl ?_ | refine bodyPost_end (results_none rfl _ _ _) rfl ?_)
  subst hnn
  refine ⟨A, c, rfl, (by repeat (first | with_reducible exact Below.refl _ _ | with_reducible assumption | with_reducible refine ExtD ?_ | with_reducible refine ExtDN ?_ | with_reducible refine ExtA ?_ | (with_reducible refine ExtR ?_ ?_; (first | omega | (dsimp only; omega) | (simp; done) | (simp; omega))) | (with_reducible refine ExtS ?_ ?_; (first | omega | (dsimp only; omega) | (simp; done) | (simp; omega))) | with_reducible refine Ext.tr ?_ (by with_reducible assumption))), (by apply Blk_eq; (· (repeat (first | with_reducible exact Hb.out | with_reducible assumption | with_reducible apply BlkD | with_reducible apply BlkDN | with_reducible apply BlkA | with_reducible apply BlkS | (with_reducible apply BlkF; rotate_left; (first | omega | (dsimp only; omega) | (simp; done) | (simp; omega))) | (with_reducible apply BlkE; rotate_left; with_reducible assumption)))); (· rfl)), (by repeat (first | with_reducible assumption | with_reducible exact Ho.out | with_reducible refine OwnD ?_ | with_reducible refine OwnDN ?_ | with_reducible refine OwnA ?_ | with_reducible refine OwnSt HN.out ?_ | with_reducible refine OwnLs.mono ?_ (by with_reducible assumption)))⟩
end Go.Proofs.YtjomgppbialeoaaGreat

namespace Go.Proofs.YtjomgppbialeoaaGreat
open Go.RowKit
set_option linter.unusedVariables false
set_option linter.unusedSimpArgs false
set_option maxRecDepth 100000 in
set_option maxHeartbeats 4000000 in
theorem pay_yes (s : St) (e : Ev) (A : Option Addr) (c g : Nat) (W0 w : World) (hx : Ext W0 w) (hg : W0.heap.size ≤ g) (hb : Blk w g 25 (stcells s A c)) (ho : OwnLs w W0.heap.size A s.lines c) (hl : ∀ l ∈ s.lines, lnB l = true) (hlen : s.lines.length ≤ 16) (htx : 0 ≤ s.tax ∧ s.tax ≤ 5000) (hr : -4611686018427387904 ≤ s.paid + e.price ∧ s.paid + e.price ≤ 4611686018427387904) (hd : (s.paid + e.price = due s)) :
    Calls Tryz.prog 48 #[.pointer (some ⟨g, 0, none⟩), .agg (evcells e)] w (TurnPost W0 g { s with paid := s.paid + e.price, status := 3 }) := by
  have Ho := Lib.hid ho
  have Hb := Lib.hid hb
  have HN := Lib.hid (own_apart ho hb)
  have hgw := hb.lt
  have K := Lib.hid fun W (h : OwnLs W W0.heap.size A s.lines c) => due_any { s with paid := s.paid + e.price } A c W h.rd hl hlen htx
  have hD : due { s with paid := s.paid + e.price } = due s := rfl
  rw [hD] at K
  clear ho hl htx hD
  generalize due s = D at *
  obtain ⟨order, status, prior, cur, tax, ls, paid, refunded, events, refused, stamp, who⟩ := s
  obtain ⟨ek, eo, ei, eq, ep, ec, et, ew, es, en⟩ := e
  unfold stcells evcells at *
  unfold TurnPost stcells
  dsimp only at *
  have Hnn : Hid (∃ n, n = ls.length) := Lib.hid ⟨_, rfl⟩
  obtain ⟨n, hnn⟩ := Hnn.out
  rw [← hnn] at Hb hb K hlen ⊢
  have Hn := Lib.hid hnn
  clear hnn Hnn
  have hw : IntKind.i64.wrap (paid + ep) = paid + ep := by rw [IntKind.wrap_i64]; omega
  have hcmp : ((paid + ep) == D) = true := by simp; exact hd
  clear hd
  have HS := Lib.hid (fun w' (h1 : Ext W0 w') (h2 : Blk w' g 25 #[.int .i64 order, .int .i64 status, .int .i64 prior, .int .i64 cur, .int .i64 tax, .slice A n c, .int .i64 (paid + ep), .int .i64 refunded, .int .i64 events, .int .i64 refused, .int .i64 stamp, .string who]) (h3 : OwnLs w' W0.heap.size A ls c) => (⟨h1, h2, h3, h2.frozen 1, h2.frozen 5, h2.cell 0, h2.cell 1, h2.cell 2, h2.cell 3, h2.cell 4, h2.cell 5, h2.cell 6, h2.cell 7, h2.cell 8, h2.cell 9, h2.cell 10, h2.cell 11⟩ : (fun w' : World => Ext W0 w' ∧ Blk w' g 25 #[.int .i64 order, .int .i64 status, .int .i64 prior, .int .i64 cur, .int .i64 tax, .slice A n c, .int .i64 (paid + ep), .int .i64 refunded, .int .i64 events, .int .i64 refused, .int .i64 stamp, .string who] ∧ OwnLs w' W0.heap.size A ls c ∧ w'.frozen? ⟨g, 1, none⟩ = false ∧ w'.frozen? ⟨g, 5, none⟩ = false ∧ w'.cell? ⟨g, 0, none⟩ = some (.int .i64 order) ∧ w'.cell? ⟨g, 1, none⟩ = some (.int .i64 status) ∧ w'.cell? ⟨g, 2, none⟩ = some (.int .i64 prior) ∧ w'.cell? ⟨g, 3, none⟩ = some (.int .i64 cur) ∧ w'.cell? ⟨g, 4, none⟩ = some (.int .i64 tax) ∧ w'.cell? ⟨g, 5, none⟩ = some (.slice A n c) ∧ w'.cell? ⟨g, 6, none⟩ = some (.int .i64 (paid + ep)) ∧ w'.cell? ⟨g, 7, none⟩ = some (.int .i64 refunded) ∧ w'.cell? ⟨g, 8, none⟩ = some (.int .i64 events) ∧ w'.cell? ⟨g, 9, none⟩ = some (.int .i64 refused) ∧ w'.cell? ⟨g, 10, none⟩ = some (.int .i64 stamp) ∧ w'.cell? ⟨g, 11, none⟩ = some (.string who)) w'))
  (have a0 : World.cell? w ⟨g, 0, none⟩ = some (.int .i64 order) := Blk.cell hb 0; have a1 : World.cell? w ⟨g, 1, none⟩ = some (.int .i64 status) := Blk.cell hb 1; have a2 : World.cell? w ⟨g, 2, none⟩ = some (.int .i64 prior) := Blk.cell hb 2; have a3 : World.cell? w ⟨g, 3, none⟩ = some (.int .i64 cur) := Blk.cell hb 3; have a4 : World.cell? w ⟨g, 4, none⟩ = some (.int .i64 tax) := Blk.cell hb 4; have a5 : World.cell? w ⟨g, 5, none⟩ = some _ := Blk.cell hb 5; have a6 : World.cell? w ⟨g, 6, none⟩ = some (.int .i64 paid) := Blk.cell hb 6; have a7 : World.cell? w ⟨g, 7, none⟩ = some (.int .i64 refunded) := Blk.cell hb 7; have a8 : World.cell? w ⟨g, 8, none⟩ = some (.int .i64 events) := Blk.cell hb 8; have a9 : World.cell? w ⟨g, 9, none⟩ = some (.int .i64 refused) := Blk.cell hb 9; have a10 : World.cell? w ⟨g, 10, none⟩ = some (.int .i64 stamp) := Blk.cell hb 10; have a11 : World.cell? w ⟨g, 11, none⟩ = some (.string who) := Blk.cell hb 11)
  (have f1 : World.frozen? w ⟨g, 1, none⟩ = false := Blk.frozen hb 1; have f2 : World.frozen? w ⟨g, 2, none⟩ = false := Blk.frozen hb 2; have f3 : World.frozen? w ⟨g, 3, none⟩ = false := Blk.frozen hb 3; have f4 : World.frozen? w ⟨g, 4, none⟩ = false := Blk.frozen hb 4; have f5 : World.frozen? w ⟨g, 5, none⟩ = false := Blk.frozen hb 5; have f6 : World.frozen? w ⟨g, 6, none⟩ = false := Blk.frozen hb 6; have f7 : World.frozen? w ⟨g, 7, none⟩ = false := Blk.frozen hb 7; have f8 : World.frozen? w ⟨g, 8, none⟩ = false := Blk.frozen hb 8; have f9 : World.frozen? w ⟨g, 9, none⟩ = false := Blk.frozen hb 9; have f10 : World.frozen? w ⟨g, 10, none⟩ = false := Blk.frozen hb 10; have f11 : World.frozen? w ⟨g, 11, none⟩ = false := Blk.frozen hb 11)
  clear hb
  go_enter Tryz.func48, Tryz.ntmps48
  go_wp2_with fail
  all_goals try go_region
  go_wp2_with fail
  go_region_held3 (fun w' : World => Ext W0 w' ∧ Blk w' g 25 #[.int .i64 order, .int .i64 status, .int .i64 prior, .int .i64 cur, .int .i64 tax, .slice A n c, .int .i64 (paid + ep), .int .i64 refunded, .int .i64 events, .int .i64 refused, .int .i64 stamp, .string who] ∧ OwnLs w' W0.heap.size A ls c ∧ w'.frozen? ⟨g, 1, none⟩ = false ∧ w'.frozen? ⟨g, 5, none⟩ = false ∧ w'.cell? ⟨g, 0, none⟩ = some (.int .i64 order) ∧ w'.cell? ⟨g, 1, none⟩ = some (.int .i64 status) ∧ w'.cell? ⟨g, 2, none⟩ = some (.int .i64 prior) ∧ w'.cell? ⟨g, 3, none⟩ = some (.int .i64 cur) ∧ w'.cell? ⟨g, 4, none⟩ = some (.int .i64 tax) ∧ w'.cell? ⟨g, 5, none⟩ = some (.slice A n c) ∧ w'.cell? ⟨g, 6, none⟩ = some (.int .i64 (paid + ep)) ∧ w'.cell? ⟨g, 7, none⟩ = some (.int .i64 refunded) ∧ w'.cell? ⟨g, 8, none⟩ = some (.int .i64 events) ∧ w'.cell? ⟨g, 9, none⟩ = some (.int .i64 refused) ∧ w'.cell? ⟨g, 10, none⟩ = some (.int .i64 stamp) ∧ w'.cell? ⟨g, 11, none⟩ = some (.string who)) (exact HS.out _ (by repeat (first | with_reducible exact Below.refl _ _ | with_reducible assumption | with_reducible refine ExtD ?_ | with_reducible refine ExtDN ?_ | with_reducible refine ExtA ?_ | (with_reducible refine ExtR ?_ ?_; (first | omega | (dsimp only; omega) | (simp; done) | (simp; omega))) | (with_reducible refine ExtS ?_ ?_; (first | omega | (dsimp only; omega) | (simp; done) | (simp; omega))) | with_reducible refine Ext.tr ?_ (by with_reducible assumption))) (by apply Blk_eq; (· (repeat (first | with_reducible exact Hb.out | with_reducible assumption | with_reducible apply BlkD | with_reducible apply BlkDN | with_reducible apply BlkA | with_reducible apply BlkS | (with_reducible apply BlkF; rotate_left; (first | omega | (dsimp only; omega) | (simp; done) | (simp; omega))) | (with_reducible apply BlkE; rotate_left; with_reducible assumption)))); (· rfl)) (by repeat (first | with_reducible assumption | with_reducible exact Ho.out | with_reducible refine OwnD ?_ | with_reducible refine OwnDN ?_ | with_reducible refine OwnA ?_ | with_reducible refine OwnSt HN.out ?_ | with_reducible refine OwnLs.mono ?_ (by with_reducible assumption)))) ((go_at_call 19; (with_reducible refine (K.out _ (by first | with_reducible assumption | exact (by repeat (first | with_reducible assumption | with_reducible exact Ho.out | with_reducible refine OwnD ?_ | with_reducible refine OwnDN ?_ | with_reducible refine OwnA ?_ | with_reducible refine OwnSt HN.out ?_ | with_reducible refine OwnLs.mono ?_ (by with_reducible assumption))))).mono ?_); rintro e w1 ⟨rfl, hx1⟩; have h3 := (HS.out w1 (by repeat (first | with_reducible exact Below.refl _ _ | with_reducible assumption | with_reducible refine ExtD ?_ | with_reducible refine ExtDN ?_ | with_reducible refine ExtA ?_ | (with_reducible refine ExtR ?_ ?_; (first | omega | (dsimp only; omega) | (simp; done) | (simp; omega))) | (with_reducible refine ExtS ?_ ?_; (first | omega | (dsimp only; omega) | (simp; done) | (simp; omega))) | with_reducible refine Ext.tr ?_ (by with_reducible assumption))) (by apply Blk_eq; (· (repeat (first | with_reducible exact Hb.out | with_reducible assumption | with_reducible apply BlkD | with_reducible apply BlkDN | with_reducible apply BlkA | with_reducible apply BlkS | (with_reducible apply BlkF; rotate_left; (first | omega | (dsimp only; omega) | (simp; done) | (simp; omega))) | (with_reducible apply BlkE; rotate_left; with_reducible assumption)))); (· rfl)) (OwnLs.mono (by first | with_reducible assumption | exact (by repeat (first | with_reducible assumption | with_reducible exact Ho.out | with_reducible refine OwnD ?_ | with_reducible refine OwnDN ?_ | with_reducible refine OwnA ?_ | with_reducible refine OwnSt HN.out ?_ | with_reducible refine OwnLs.mono ?_ (by with_reducible assumption)))) hx1)); go_split_ands))
  go_split_ands
  go_wp2_with fail
  ((try simp only [Exit.inBlock, Exit.then]); first | refine bodyPost_ret (results_none rfl _ _ _) rfl ?_ | refine bodyPost_end (results_none rfl _ _ _) rfl ?_)
  subst_vars
  exact ⟨A, c, rfl, (by repeat (first | with_reducible exact Below.refl _ _ | with_reducible assumption | with_reducible refine ExtD ?_ | with_reducible refine ExtDN ?_ | with_reducible refine ExtA ?_ | (with_reducible refine ExtR ?_ ?_; (first | omega | (dsimp only; omega) | (simp; done) | (simp; omega))) | (with_reducible refine ExtS ?_ ?_; (first | omega | (dsimp only; omega) | (simp; done) | (simp; omega))) | with_reducible refine Ext.tr ?_ (by with_reducible assumption))), (by apply Blk_eq; (· (repeat (first | with_reducible exact Hb.out | with_reducible assumption | with_reducible apply BlkD | with_reducible apply BlkDN | with_reducible apply BlkA | with_reducible apply BlkS | (with_reducible apply BlkF; rotate_left; (first | omega | (dsimp only; omega) | (simp; done) | (simp; omega))) | (with_reducible apply BlkE; rotate_left; with_reducible assumption)))); (· rfl)), (by repeat (first | with_reducible assumption | with_reducible exact Ho.out | with_reducible refine OwnD ?_ | with_reducible refine OwnDN ?_ | with_reducible refine OwnA ?_ | with_reducible refine OwnSt HN.out ?_ | with_reducible refine OwnLs.mono ?_ (by with_reducible assumption)))⟩
set_option maxRecDepth 100000 in
set_option maxHeartbeats 4000000 in
theorem pay_no (s : St) (e : Ev) (A : Option Addr) (c g : Nat) (W0 w : World) (hx : Ext W0 w) (hg : W0.heap.size ≤ g) (hb : Blk w g 25 (stcells s A c)) (ho : OwnLs w W0.heap.size A s.lines c) (hl : ∀ l ∈ s.lines, lnB l = true) (hlen : s.lines.length ≤ 16) (htx : 0 ≤ s.tax ∧ s.tax ≤ 5000) (hr : -4611686018427387904 ≤ s.paid + e.price ∧ s.paid + e.price ≤ 4611686018427387904) (hd : ¬ (s.paid + e.price = due s)) :
    Calls Tryz.prog 48 #[.pointer (some ⟨g, 0, none⟩), .agg (evcells e)] w (TurnPost W0 g { s with paid := s.paid + e.price }) := by
  have Ho := Lib.hid ho
  have Hb := Lib.hid hb
  have HN := Lib.hid (own_apart ho hb)
  have hgw := hb.lt
  have K := Lib.hid fun W (h : OwnLs W W0.heap.size A s.lines c) => due_any { s with paid := s.paid + e.price } A c W h.rd hl hlen htx
  have hD : due { s with paid := s.paid + e.price } = due s := rfl
  rw [hD] at K
  clear ho hl htx hD
  generalize due s = D at *
  obtain ⟨order, status, prior, cur, tax, ls, paid, refunded, events, refused, stamp, who⟩ := s
  obtain ⟨ek, eo, ei, eq, ep, ec, et, ew, es, en⟩ := e
  unfold stcells evcells at *
  unfold TurnPost stcells
  dsimp only at *
  have Hnn : Hid (∃ n, n = ls.length) := Lib.hid ⟨_, rfl⟩
  obtain ⟨n, hnn⟩ := Hnn.out
  rw [← hnn] at Hb hb K hlen ⊢
  have Hn := Lib.hid hnn
  clear hnn Hnn
  have hw : IntKind.i64.wrap (paid + ep) = paid + ep := by rw [IntKind.wrap_i64]; omega
  have hcmp : ((paid + ep) == D) = false := by simp; exact hd
  clear hd
  have HS := Lib.hid (fun w' (h1 : Ext W0 w') (h2 : Blk w' g 25 #[.int .i64 order, .int .i64 status, .int .i64 prior, .int .i64 cur, .int .i64 tax, .slice A n c, .int .i64 (paid + ep), .int .i64 refunded, .int .i64 events, .int .i64 refused, .int .i64 stamp, .string who]) (h3 : OwnLs w' W0.heap.size A ls c) => (⟨h1, h2, h3, h2.frozen 1, h2.frozen 5, h2.cell 0, h2.cell 1, h2.cell 2, h2.cell 3, h2.cell 4, h2.cell 5, h2.cell 6, h2.cell 7, h2.cell 8, h2.cell 9, h2.cell 10, h2.cell 11⟩ : (fun w' : World => Ext W0 w' ∧ Blk w' g 25 #[.int .i64 order, .int .i64 status, .int .i64 prior, .int .i64 cur, .int .i64 tax, .slice A n c, .int .i64 (paid + ep), .int .i64 refunded, .int .i64 events, .int .i64 refused, .int .i64 stamp, .string who] ∧ OwnLs w' W0.heap.size A ls c ∧ w'.frozen? ⟨g, 1, none⟩ = false ∧ w'.frozen? ⟨g, 5, none⟩ = false ∧ w'.cell? ⟨g, 0, none⟩ = some (.int .i64 order) ∧ w'.cell? ⟨g, 1, none⟩ = some (.int .i64 status) ∧ w'.cell? ⟨g, 2, none⟩ = some (.int .i64 prior) ∧ w'.cell? ⟨g, 3, none⟩ = some (.int .i64 cur) ∧ w'.cell? ⟨g, 4, none⟩ = some (.int .i64 tax) ∧ w'.cell? ⟨g, 5, none⟩ = some (.slice A n c) ∧ w'.cell? ⟨g, 6, none⟩ = some (.int .i64 (paid + ep)) ∧ w'.cell? ⟨g, 7, none⟩ = some (.int .i64 refunded) ∧ w'.cell? ⟨g, 8, none⟩ = some (.int .i64 events) ∧ w'.cell? ⟨g, 9, none⟩ = some (.int .i64 refused) ∧ w'.cell? ⟨g, 10, none⟩ = some (.int .i64 stamp) ∧ w'.cell? ⟨g, 11, none⟩ = some (.string who)) w'))
  (have a0 : World.cell? w ⟨g, 0, none⟩ = some (.int .i64 order) := Blk.cell hb 0; have a1 : World.cell? w ⟨g, 1, none⟩ = some (.int .i64 status) := Blk.cell hb 1; have a2 : World.cell? w ⟨g, 2, none⟩ = some (.int .i64 prior) := Blk.cell hb 2; have a3 : World.cell? w ⟨g, 3, none⟩ = some (.int .i64 cur) := Blk.cell hb 3; have a4 : World.cell? w ⟨g, 4, none⟩ = some (.int .i64 tax) := Blk.cell hb 4; have a5 : World.cell? w ⟨g, 5, none⟩ = some _ := Blk.cell hb 5; have a6 : World.cell? w ⟨g, 6, none⟩ = some (.int .i64 paid) := Blk.cell hb 6; have a7 : World.cell? w ⟨g, 7, none⟩ = some (.int .i64 refunded) := Blk.cell hb 7; have a8 : World.cell? w ⟨g, 8, none⟩ = some (.int .i64 events) := Blk.cell hb 8; have a9 : World.cell? w ⟨g, 9, none⟩ = some (.int .i64 refused) := Blk.cell hb 9; have a10 : World.cell? w ⟨g, 10, none⟩ = some (.int .i64 stamp) := Blk.cell hb 10; have a11 : World.cell? w ⟨g, 11, none⟩ = some (.string who) := Blk.cell hb 11)
  (have f1 : World.frozen? w ⟨g, 1, none⟩ = false := Blk.frozen hb 1; have f2 : World.frozen? w ⟨g, 2, none⟩ = false := Blk.frozen hb 2; have f3 : World.frozen? w ⟨g, 3, none⟩ = false := Blk.frozen hb 3; have f4 : World.frozen? w ⟨g, 4, none⟩ = false := Blk.frozen hb 4; have f5 : World.frozen? w ⟨g, 5, none⟩ = false := Blk.frozen hb 5; have f6 : World.frozen? w ⟨g, 6, none⟩ = false := Blk.frozen hb 6; have f7 : World.frozen? w ⟨g, 7, none⟩ = false := Blk.frozen hb 7; have f8 : World.frozen? w ⟨g, 8, none⟩ = false := Blk.frozen hb 8; have f9 : World.frozen? w ⟨g, 9, none⟩ = false := Blk.frozen hb 9; have f10 : World.frozen? w ⟨g, 10, none⟩ = false := Blk.frozen hb 10; have f11 : World.frozen? w ⟨g, 11, none⟩ = false := Blk.frozen hb 11)
  clear hb
  go_enter Tryz.func48, Tryz.ntmps48
  go_wp2_with fail
  all_goals try go_region
  go_wp2_with fail
  go_region_held3 (fun w' : World => Ext W0 w' ∧ Blk w' g 25 #[.int .i64 order, .int .i64 status, .int .i64 prior, .int .i64 cur, .int .i64 tax, .slice A n c, .int .i64 (paid + ep), .int .i64 refunded, .int .i64 events, .int .i64 refused, .int .i64 stamp, .string who] ∧ OwnLs w' W0.heap.size A ls c ∧ w'.frozen? ⟨g, 1, none⟩ = false ∧ w'.frozen? ⟨g, 5, none⟩ = false ∧ w'.cell? ⟨g, 0, none⟩ = some (.int .i64 order) ∧ w'.cell? ⟨g, 1, none⟩ = some (.int .i64 status) ∧ w'.cell? ⟨g, 2, none⟩ = some (.int .i64 prior) ∧ w'.cell? ⟨g, 3, none⟩ = some (.int .i64 cur) ∧ w'.cell? ⟨g, 4, none⟩ = some (.int .i64 tax) ∧ w'.cell? ⟨g, 5, none⟩ = some (.slice A n c) ∧ w'.cell? ⟨g, 6, none⟩ = some (.int .i64 (paid + ep)) ∧ w'.cell? ⟨g, 7, none⟩ = some (.int .i64 refunded) ∧ w'.cell? ⟨g, 8, none⟩ = some (.int .i64 events) ∧ w'.cell? ⟨g, 9, none⟩ = some (.int .i64 refused) ∧ w'.cell? ⟨g, 10, none⟩ = some (.int .i64 stamp) ∧ w'.cell? ⟨g, 11, none⟩ = some (.string who)) (exact HS.out _ (by repeat (first | with_reducible exact Below.refl _ _ | with_reducible assumption | with_reducible refine ExtD ?_ | with_reducible refine ExtDN ?_ | with_reducible refine ExtA ?_ | (with_reducible refine ExtR ?_ ?_; (first | omega | (dsimp only; omega) | (simp; done) | (simp; omega))) | (with_reducible refine ExtS ?_ ?_; (first | omega | (dsimp only; omega) | (simp; done) | (simp; omega))) | with_reducible refine Ext.tr ?_ (by with_reducible assumption))) (by apply Blk_eq; (· (repeat (first | with_reducible exact Hb.out | with_reducible assumption | with_reducible apply BlkD | with_reducible apply BlkDN | with_reducible apply BlkA | with_reducible apply BlkS | (with_reducible apply BlkF; rotate_left; (first | omega | (dsimp only; omega) | (simp; done) | (simp; omega))) | (with_reducible apply BlkE; rotate_left; with_reducible assumption)))); (· rfl)) (by repeat (first | with_reducible assumption | with_reducible exact Ho.out | with_reducible refine OwnD ?_ | with_reducible refine OwnDN ?_ | with_reducible refine OwnA ?_ | with_reducible refine OwnSt HN.out ?_ | with_reducible refine OwnLs.mono ?_ (by with_reducible assumption)))) ((go_at_call 19; (with_reducible refine (K.out _ (by first | with_reducible assumption | exact (by repeat (first | with_reducible assumption | with_reducible exact Ho.out | with_reducible refine OwnD ?_ | with_reducible refine OwnDN ?_ | with_reducible refine OwnA ?_ | with_reducible refine OwnSt HN.out ?_ | with_reducible refine OwnLs.mono ?_ (by with_reducible assumption))))).mono ?_); rintro e w1 ⟨rfl, hx1⟩; have h3 := (HS.out w1 (by repeat (first | with_reducible exact Below.refl _ _ | with_reducible assumption | with_reducible refine ExtD ?_ | with_reducible refine ExtDN ?_ | with_reducible refine ExtA ?_ | (with_reducible refine ExtR ?_ ?_; (first | omega | (dsimp only; omega) | (simp; done) | (simp; omega))) | (with_reducible refine ExtS ?_ ?_; (first | omega | (dsimp only; omega) | (simp; done) | (simp; omega))) | with_reducible refine Ext.tr ?_ (by with_reducible assumption))) (by apply Blk_eq; (· (repeat (first | with_reducible exact Hb.out | with_reducible assumption | with_reducible apply BlkD | with_reducible apply BlkDN | with_reducible apply BlkA | with_reducible apply BlkS | (with_reducible apply BlkF; rotate_left; (first | omega | (dsimp only; omega) | (simp; done) | (simp; omega))) | (with_reducible apply BlkE; rotate_left; with_reducible assumption)))); (· rfl)) (OwnLs.mono (by first | with_reducible assumption | exact (by repeat (first | with_reducible assumption | with_reducible exact Ho.out | with_reducible refine OwnD ?_ | with_reducible refine OwnDN ?_ | with_reducible refine OwnA ?_ | with_reducible refine OwnSt HN.out ?_ | with_reducible refine OwnLs.mono ?_ (by with_reducible assumption)))) hx1)); go_split_ands))
  go_split_ands
  go_wp2_with fail
  ((try simp only [Exit.inBlock, Exit.then]); first | refine bodyPost_ret (results_none rfl _ _ _) rfl ?_ | refine bodyPost_end (results_none rfl _ _ _) rfl ?_)
  subst_vars
  exact ⟨A, c, rfl, (by repeat (first | with_reducible exact Below.refl _ _ | with_reducible assumption | with_reducible refine ExtD ?_ | with_reducible refine ExtDN ?_ | with_reducible refine ExtA ?_ | (with_reducible refine ExtR ?_ ?_; (first | omega | (dsimp only; omega) | (simp; done) | (simp; omega))) | (with_reducible refine ExtS ?_ ?_; (first | omega | (dsimp only; omega) | (simp; done) | (simp; omega))) | with_reducible refine Ext.tr ?_ (by with_reducible assumption))), (by apply Blk_eq; (· (repeat (first | with_reducible exact Hb.out | with_reducible assumption | with_reducible apply BlkD | with_reducible apply BlkDN | with_reducible apply BlkA | with_reducible apply BlkS | (with_reducible apply BlkF; rotate_left; (first | omega | (dsimp only; omega) | (simp; done) | (simp; omega))) | (with_reducible apply BlkE; rotate_left; with_reducible assumption)))); (· rfl)), (by repeat (first | with_reducible assumption | with_reducible exact Ho.out | with_reducible refine OwnD ?_ | with_reducible refine OwnDN ?_ | with_reducible refine OwnA ?_ | with_reducible refine OwnSt HN.out ?_ | with_reducible refine OwnLs.mono ?_ (by with_reducible assumption)))⟩
end Go.Proofs.YtjomgppbialeoaaGreat
