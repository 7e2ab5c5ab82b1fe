/-
  The walk of order.drop.
-/
/-
  The walks of order.ship and of the rule that clears.
-/
/-
  The walk of the rule that clears.
-/
import Derived.Test.YtjomgppbialeoaaGreatOrdR
import Derived.Test.YtjomgppbialeoaaGreatOrdB
namespace Go.Proofs.YtjomgppbialeoaaGreat
open Go.RowKit
set_option linter.unusedVariables false
set_option linter.unusedSimpArgs false
theorem own_frozen_ {w : World} {base lb c : Nat} {ls : List Ln} (h : OwnLs w base (some ⟨lb, 0, none⟩) ls c) (j : Nat) : w.frozen? ⟨lb, j, none⟩ = false := World.ownsRow.frozenAt h j
set_option maxRecDepth 100000 in
set_option maxHeartbeats 4000000 in
theorem drop_keeps (s : St) (e : Ev) (A : Option Addr) (c g : Nat) (W0 w : World) (hx : Ext W0 w) (hg : W0.heap.size ≤ g) (hb : Blk w g 25 (stcells s A c)) (ho : OwnLs w W0.heap.size A s.lines c) (hlen : s.lines.length ≤ 16) (hr : risesB (-1) s.lines = true) (he : EOk e) (ht : thereB e.item s.lines = true) (hq2 : ∀ h : posOf e.item s.lines < s.lines.length, 0 < (s.lines[posOf e.item s.lines]).qty - e.qty) :
    Calls Tryz.prog 51 #[.pointer (some ⟨g, 0, none⟩), .agg (evcells e)] w (TurnPost W0 g { s with lines := more e.item e.price (-e.qty) s.lines }) := by
  obtain ⟨hP, hPi⟩ := pos_there hr ht
  have hM := more_there (price := e.price) (q := -e.qty) hr ht hP
  have hlk := (lnB_iff.1 (rises_mem hr _ (List.getElem_mem hP)).1).2.2.1
  have hq := he.qty
  have hq3 := hq2 hP
  rw [if_pos (by omega)] at hM
  have K := Lib.hid fun W (h : OwnLs W W0.heap.size A s.lines c) => find_any s e.item A c W h.rd hlen hr he.item
  rw [ht] at K
  obtain ⟨lb, _, rfl, _, _⟩ := lown_blk ho (by omega)
  have Ho := Lib.hid ho
  have Hb := Lib.hid hb
  have HN := Lib.hid (own_apart ho hb)
  have hglb : g ≠ lb := fun h => HN.out 0 0 (by rw [h]; rfl)
  have hlbw := (World.ownsRow.lt ho lb rfl).1
  have hgw := hb.lt
  have HLn := Lib.hid fun w' (h : OwnLs w' W0.heap.size (some ⟨lb, 0, none⟩) s.lines c) => own_at h hP
  have HFz := Lib.hid fun w' (h : OwnLs w' W0.heap.size (some ⟨lb, 0, none⟩) s.lines c) => own_frozen_ h
  have HSet := Lib.hid fun w' (h : OwnLs w' W0.heap.size (some ⟨lb, 0, none⟩) s.lines c) => own_set (f := 2) (v := .int .i64 ((s.lines[posOf e.item s.lines]).qty - e.qty)) (l := ⟨(s.lines[posOf e.item s.lines]).item, (s.lines[posOf e.item s.lines]).price, (s.lines[posOf e.item s.lines]).qty - e.qty, (s.lines[posOf e.item s.lines]).shipped⟩) h hP (by omega) rfl
  clear hr he ht hPi hq2
  rw [show ∀ x : Int, x + -e.qty = x - e.qty from fun x => by omega] at hM
  rw [← hM] at HSet
  have hML : (more e.item e.price (-e.qty) s.lines).length = s.lines.length := by rw [hM, List.length_set]
  clear hM
  generalize s.lines[posOf e.item s.lines] = l at *
  generalize posOf e.item s.lines = P at *
  generalize more e.item e.price (-e.qty) s.lines = ls2 at *
  obtain ⟨order, status, prior, cur, tax, ls, paid, refunded, events, refused, stamp, who⟩ := s
  obtain ⟨ek, eo, ei, eq, ep, ec, et, ew, es, en⟩ := e
  obtain ⟨li, lp, lq, lsh⟩ := l
  unfold stcells evcells lncells at *
  unfold TurnPost stcells
  dsimp only at *
  rw [hML]
  have Hnn : Hid (∃ n, n = ls.length) := Lib.hid ⟨_, rfl⟩
  obtain ⟨n, hnn⟩ := Hnn.out
  rw [← hnn] at Hb hb K hlen hP ⊢
  clear hnn Hnn ho
  have hw : IntKind.i64.wrap (lq - eq) = lq - eq := by rw [IntKind.wrap_i64]; omega
  have hne : ((lq - eq) == 0) = false := by simp; omega
  have HS := Lib.hid (fun w' (h1 : Ext W0 w') (h2 : Blk w' g 25 #[.int .i64 order, .int .i64 status, .int .i64 prior, .int .i64 cur, .int .i64 tax, .slice (some ⟨lb, 0, none⟩) n c, .int .i64 paid, .int .i64 refunded, .int .i64 events, .int .i64 refused, .int .i64 stamp, .string who]) (h3 : OwnLs w' W0.heap.size (some ⟨lb, 0, none⟩) ls c) (h4 : Blk w' w.heap.size 38 #[.int .i64 ek, .int .i64 eo, .int .i64 ei, .int .i64 eq, .int .i64 ep, .int .i64 ec, .int .i64 et, .string ew, .int .i64 es, .string en]) => (⟨h1, h2, h3, h4, h2.frozen 1, h2.frozen 5, h2.cell 0, h2.cell 1, h2.cell 2, h2.cell 3, h2.cell 4, h2.cell 5, h2.cell 6, h2.cell 7, h2.cell 8, h2.cell 9, h2.cell 10, h2.cell 11, h4.cell 2, h4.cell 3, h4.cell 4, HLn.out w' h3 2 _ rfl, HFz.out w' h3 _, HLn.out w' h3 3 _ rfl, HFz.out w' h3 _⟩ : (fun w' : World => Ext W0 w' ∧ Blk w' g 25 #[.int .i64 order, .int .i64 status, .int .i64 prior, .int .i64 cur, .int .i64 tax, .slice (some ⟨lb, 0, none⟩) n c, .int .i64 paid, .int .i64 refunded, .int .i64 events, .int .i64 refused, .int .i64 stamp, .string who] ∧ OwnLs w' W0.heap.size (some ⟨lb, 0, none⟩) ls c ∧ Blk w' w.heap.size 38 #[.int .i64 ek, .int .i64 eo, .int .i64 ei, .int .i64 eq, .int .i64 ep, .int .i64 ec, .int .i64 et, .string ew, .int .i64 es, .string en] ∧ w'.frozen? ⟨g, 1, none⟩ = false ∧ w'.frozen? ⟨g, 5, none⟩ = false ∧ w'.cell? ⟨g, 0, none⟩ = some (.int .i64 order) ∧ w'.cell? ⟨g, 1, none⟩ = some (.int .i64 status) ∧ w'.cell? ⟨g, 2, none⟩ = some (.int .i64 prior) ∧ w'.cell? ⟨g, 3, none⟩ = some (.int .i64 cur) ∧ w'.cell? ⟨g, 4, none⟩ = some (.int .i64 tax) ∧ w'.cell? ⟨g, 5, none⟩ = some (.slice (some ⟨lb, 0, none⟩) n c) ∧ w'.cell? ⟨g, 6, none⟩ = some (.int .i64 paid) ∧ w'.cell? ⟨g, 7, none⟩ = some (.int .i64 refunded) ∧ w'.cell? ⟨g, 8, none⟩ = some (.int .i64 events) ∧ w'.cell? ⟨g, 9, none⟩ = some (.int .i64 refused) ∧ w'.cell? ⟨g, 10, none⟩ = some (.int .i64 stamp) ∧ w'.cell? ⟨g, 11, none⟩ = some (.string who) ∧ w'.cell? ⟨w.heap.size, 2, none⟩ = some (.int .i64 ei) ∧ w'.cell? ⟨w.heap.size, 3, none⟩ = some (.int .i64 eq) ∧ w'.cell? ⟨w.heap.size, 4, none⟩ = some (.int .i64 ep) ∧ w'.cell? ⟨lb, P * 4 + 2, none⟩ = some (.int .i64 lq) ∧ w'.frozen? ⟨lb, P * 4 + 2, none⟩ = false ∧ w'.cell? ⟨lb, P * 4 + 3, none⟩ = some (.int .i64 lsh) ∧ w'.frozen? ⟨lb, P * 4 + 3, none⟩ = false) w'))
  (have a0 : World.cell? w ⟨g, 0, none⟩ = some (.int .i64 order) := Blk.cell hb 0; have a1 : World.cell? w ⟨g, 1, none⟩ = some (.int .i64 status) := Blk.cell hb 1; have a2 : World.cell? w ⟨g, 2, none⟩ = some (.int .i64 prior) := Blk.cell hb 2; have a3 : World.cell? w ⟨g, 3, none⟩ = some (.int .i64 cur) := Blk.cell hb 3; have a4 : World.cell? w ⟨g, 4, none⟩ = some (.int .i64 tax) := Blk.cell hb 4; have a5 : World.cell? w ⟨g, 5, none⟩ = some _ := Blk.cell hb 5; have a6 : World.cell? w ⟨g, 6, none⟩ = some (.int .i64 paid) := Blk.cell hb 6; have a7 : World.cell? w ⟨g, 7, none⟩ = some (.int .i64 refunded) := Blk.cell hb 7; have a8 : World.cell? w ⟨g, 8, none⟩ = some (.int .i64 events) := Blk.cell hb 8; have a9 : World.cell? w ⟨g, 9, none⟩ = some (.int .i64 refused) := Blk.cell hb 9; have a10 : World.cell? w ⟨g, 10, none⟩ = some (.int .i64 stamp) := Blk.cell hb 10; have a11 : World.cell? w ⟨g, 11, none⟩ = some (.string who) := Blk.cell hb 11)
  clear hb
  go_enter Tryz.func51, Tryz.ntmps51
  go_wp2_with fail
  go_region_held3 (fun w' : World => Ext W0 w' ∧ Blk w' g 25 #[.int .i64 order, .int .i64 status, .int .i64 prior, .int .i64 cur, .int .i64 tax, .slice (some ⟨lb, 0, none⟩) n c, .int .i64 paid, .int .i64 refunded, .int .i64 events, .int .i64 refused, .int .i64 stamp, .string who] ∧ OwnLs w' W0.heap.size (some ⟨lb, 0, none⟩) ls c ∧ Blk w' w.heap.size 38 #[.int .i64 ek, .int .i64 eo, .int .i64 ei, .int .i64 eq, .int .i64 ep, .int .i64 ec, .int .i64 et, .string ew, .int .i64 es, .string en] ∧ w'.frozen? ⟨g, 1, none⟩ = false ∧ w'.frozen? ⟨g, 5, none⟩ = false ∧ w'.cell? ⟨g, 0, none⟩ = some (.int .i64 order) ∧ w'.cell? ⟨g, 1, none⟩ = some (.int .i64 status) ∧ w'.cell? ⟨g, 2, none⟩ = some (.int .i64 prior) ∧ w'.cell? ⟨g, 3, none⟩ = some (.int .i64 cur) ∧ w'.cell? ⟨g, 4, none⟩ = some (.int .i64 tax) ∧ w'.cell? ⟨g, 5, none⟩ = some (.slice (some ⟨lb, 0, none⟩) n c) ∧ w'.cell? ⟨g, 6, none⟩ = some (.int .i64 paid) ∧ w'.cell? ⟨g, 7, none⟩ = some (.int .i64 refunded) ∧ w'.cell? ⟨g, 8, none⟩ = some (.int .i64 events) ∧ w'.cell? ⟨g, 9, none⟩ = some (.int .i64 refused) ∧ w'.cell? ⟨g, 10, none⟩ = some (.int .i64 stamp) ∧ w'.cell? ⟨g, 11, none⟩ = some (.string who) ∧ w'.cell? ⟨w.heap.size, 2, none⟩ = some (.int .i64 ei) ∧ w'.cell? ⟨w.heap.size, 3, none⟩ = some (.int .i64 eq) ∧ w'.cell? ⟨w.heap.size, 4, none⟩ = some (.int .i64 ep) ∧ w'.cell? ⟨lb, P * 4 + 2, none⟩ = some (.int .i64 lq) ∧ w'.frozen? ⟨lb, P * 4 + 2, none⟩ = false ∧ w'.cell? ⟨lb, P * 4 + 3, none⟩ = some (.int .i64 lsh) ∧ w'.frozen? ⟨lb, P * 4 + 3, none⟩ = false) (exact HS.out _ (by repeat (first | with_reducible exact Below.refl _ _ | with_reducible assumption | with_reducible refine ExtD ?_ | with_reducible refine ExtDN ?_ | with_reducible refine ExtA ?_ | (with_reducible refine ExtR ?_ ?_; (first | omega | (dsimp only; omega) | (simp; done) | (simp; omega))) | (with_reducible refine ExtS ?_ ?_; (first | omega | (dsimp only; omega) | (simp; done) | (simp; omega))) | with_reducible refine Ext.tr ?_ (by with_reducible assumption))) (by apply Blk_eq; (· (repeat (first | with_reducible exact Hb.out | with_reducible assumption | with_reducible apply BlkD | with_reducible apply BlkDN | with_reducible apply BlkA | with_reducible apply BlkS | (with_reducible apply BlkF; rotate_left; (first | omega | (dsimp only; omega) | (simp; done) | (simp; omega))) | (with_reducible apply BlkE; rotate_left; with_reducible assumption)))); (· rfl)) (by repeat (first | with_reducible assumption | with_reducible exact Ho.out | with_reducible refine OwnD ?_ | with_reducible refine OwnDN ?_ | with_reducible refine OwnA ?_ | with_reducible refine OwnSt HN.out ?_ | with_reducible refine OwnLs.mono ?_ (by with_reducible assumption))) (by repeat (first | with_reducible assumption | (with_reducible refine BlkN ?_; (first | rfl | (first | omega | (dsimp only; omega) | (simp; done) | (simp; omega)))) | with_reducible refine BlkD ?_ | with_reducible refine BlkDN ?_ | with_reducible refine BlkA ?_ | (with_reducible refine BlkF ?_ ?_; (first | omega | (dsimp only; omega) | (simp; done) | (simp; omega))) | with_reducible refine BlkE ?_ (by with_reducible assumption)))) ((go_at_call 71; (with_reducible refine (K.out _ (by repeat (first | with_reducible assumption | with_reducible exact Ho.out | with_reducible refine OwnD ?_ | with_reducible refine OwnDN ?_ | with_reducible refine OwnA ?_ | with_reducible refine OwnSt HN.out ?_ | with_reducible refine OwnLs.mono ?_ (by with_reducible assumption)))).mono ?_); rintro e w1 ⟨rfl, hx1⟩; have h3 := (HS.out w1 (by repeat (first | with_reducible exact Below.refl _ _ | with_reducible assumption | with_reducible refine ExtD ?_ | with_reducible refine ExtDN ?_ | with_reducible refine ExtA ?_ | (with_reducible refine ExtR ?_ ?_; (first | omega | (dsimp only; omega) | (simp; done) | (simp; omega))) | (with_reducible refine ExtS ?_ ?_; (first | omega | (dsimp only; omega) | (simp; done) | (simp; omega))) | with_reducible refine Ext.tr ?_ (by with_reducible assumption))) (by apply Blk_eq; (· (repeat (first | with_reducible exact Hb.out | with_reducible assumption | with_reducible apply BlkD | with_reducible apply BlkDN | with_reducible apply BlkA | with_reducible apply BlkS | (with_reducible apply BlkF; rotate_left; (first | omega | (dsimp only; omega) | (simp; done) | (simp; omega))) | (with_reducible apply BlkE; rotate_left; with_reducible assumption)))); (· rfl)) (OwnLs.mono (by repeat (first | with_reducible assumption | with_reducible exact Ho.out | with_reducible refine OwnD ?_ | with_reducible refine OwnDN ?_ | with_reducible refine OwnA ?_ | with_reducible refine OwnSt HN.out ?_ | with_reducible refine OwnLs.mono ?_ (by with_reducible assumption))) hx1) (by repeat (first | with_reducible assumption | (with_reducible refine BlkN ?_; (first | rfl | (first | omega | (dsimp only; omega) | (simp; done) | (simp; omega)))) | with_reducible refine BlkD ?_ | with_reducible refine BlkDN ?_ | with_reducible refine BlkA ?_ | (with_reducible refine BlkF ?_ ?_; (first | omega | (dsimp only; omega) | (simp; done) | (simp; omega))) | with_reducible refine BlkE ?_ (by with_reducible assumption)))); go_split_ands))
  go_split_ands
  go_wp2_with fail
  go_region
  all_goals (go_wp2_with fail)
  ((try simp only [Exit.inBlock, Exit.then]); first | refine bodyPost_ret (results_none rfl _ _ _) rfl ?_ | refine bodyPost_end (results_none rfl _ _ _) rfl ?_)
  exact ⟨some ⟨lb, 0, none⟩, c, rfl, (by repeat (first | with_reducible exact Below.refl _ _ | with_reducible assumption | with_reducible refine ExtD ?_ | with_reducible refine ExtDN ?_ | with_reducible refine ExtA ?_ | (with_reducible refine ExtR ?_ ?_; (first | omega | (dsimp only; omega) | (simp; done) | (simp; omega))) | (with_reducible refine ExtS ?_ ?_; (first | omega | (dsimp only; omega) | (simp; done) | (simp; omega))) | with_reducible refine Ext.tr ?_ (by with_reducible assumption))), (by apply Blk_eq; (· (repeat (first | with_reducible exact Hb.out | with_reducible assumption | with_reducible apply BlkD | with_reducible apply BlkDN | with_reducible apply BlkA | with_reducible apply BlkS | (with_reducible apply BlkF; rotate_left; (first | omega | (dsimp only; omega) | (simp; done) | (simp; omega))) | (with_reducible apply BlkE; rotate_left; with_reducible assumption)))); (· rfl)), (by repeat (first | with_reducible assumption | with_reducible refine OwnD ?_ | with_reducible refine OwnDN ?_ | with_reducible refine OwnA ?_ | with_reducible refine HSet.out _ ?_ | with_reducible refine OwnSt HN.out ?_ | with_reducible exact Ho.out | with_reducible refine OwnLs.mono ?_ (by with_reducible assumption)))⟩
set_option maxRecDepth 100000 in
set_option maxHeartbeats 4000000 in
theorem drop_loses (s : St) (e : Ev) (A : Option Addr) (c g : Nat) (W0 w : World) (hx : Ext W0 w) (hg : W0.heap.size ≤ g) (hb : Blk w g 25 (stcells s A c)) (ho : OwnLs w W0.heap.size A s.lines c) (hlen : s.lines.length ≤ 16) (hr : risesB (-1) s.lines = true) (he : EOk e) (ht : thereB e.item s.lines = true) (hq2 : ∀ h : posOf e.item s.lines < s.lines.length, (s.lines[posOf e.item s.lines]).qty - e.qty = 0) :
    Calls Tryz.prog 51 #[.pointer (some ⟨g, 0, none⟩), .agg (evcells e)] w (TurnPost W0 g { s with lines := more e.item e.price (-e.qty) s.lines }) := by
  obtain ⟨hP, hPi⟩ := pos_there hr ht
  have hM := more_there (price := e.price) (q := -e.qty) hr ht hP
  have hlk := (lnB_iff.1 (rises_mem hr _ (List.getElem_mem hP)).1).2.2.1
  have hq := he.qty
  have hq3 := hq2 hP
  rw [if_neg (by omega)] at hM
  have K := Lib.hid fun W (h : OwnLs W W0.heap.size A s.lines c) => find_any s e.item A c W h.rd hlen hr he.item
  rw [ht] at K
  obtain ⟨lb, _, rfl, _, _⟩ := lown_blk ho (by omega)
  have Ho := Lib.hid ho
  have Hb := Lib.hid hb
  have HN := Lib.hid (own_apart ho hb)
  have hglb : g ≠ lb := fun h => HN.out 0 0 (by rw [h]; rfl)
  have hlbw := (World.ownsRow.lt ho lb rfl).1
  have hgw := hb.lt
  have HLn := Lib.hid fun w' (h : OwnLs w' W0.heap.size (some ⟨lb, 0, none⟩) s.lines c) => own_at h hP
  have HFz := Lib.hid fun w' (h : OwnLs w' W0.heap.size (some ⟨lb, 0, none⟩) s.lines c) => own_frozen_ h
  have HSet := Lib.hid fun w' (h : OwnLs w' W0.heap.size (some ⟨lb, 0, none⟩) s.lines c) => own_set (f := 2) (v := .int .i64 ((s.lines[posOf e.item s.lines]).qty - e.qty)) (l := ⟨(s.lines[posOf e.item s.lines]).item, (s.lines[posOf e.item s.lines]).price, (s.lines[posOf e.item s.lines]).qty - e.qty, (s.lines[posOf e.item s.lines]).shipped⟩) h hP (by omega) rfl
  clear hr he ht hPi hq2
  have hSL : (s.lines.set (posOf e.item s.lines) ⟨(s.lines[posOf e.item s.lines]).item, (s.lines[posOf e.item s.lines]).price, (s.lines[posOf e.item s.lines]).qty - e.qty, (s.lines[posOf e.item s.lines]).shipped⟩).length = s.lines.length := List.length_set ..
  have KD := Lib.hid fun W (h : OwnLs W W0.heap.size (some ⟨lb, 0, none⟩) (s.lines.set (posOf e.item s.lines) ⟨(s.lines[posOf e.item s.lines]).item, (s.lines[posOf e.item s.lines]).price, (s.lines[posOf e.item s.lines]).qty - e.qty, (s.lines[posOf e.item s.lines]).shipped⟩) c) => delete_any _ (posOf e.item s.lines) _ c W0.heap.size W h (by rw [hSL]; exact hlen) (by rw [hSL]; exact hP)
  have hTD : ∀ l, (s.lines.set (posOf e.item s.lines) l).take (posOf e.item s.lines) ++ (s.lines.set (posOf e.item s.lines) l).drop (posOf e.item s.lines + 1) = more e.item e.price (-e.qty) s.lines := fun l => by
    rw [hM, List.take_set_of_le (Nat.le_refl _), List.drop_set_of_lt (Nat.lt_succ_self _)]
  rw [hTD, hSL] at KD
  have HOw := Lib.hid (World.ownsRow.lt ho)
  clear hM hTD hSL
  generalize hLS : s.lines.set (posOf e.item s.lines) _ = ls1 at *
  clear hLS
  generalize s.lines[posOf e.item s.lines] = l at *
  generalize posOf e.item s.lines = P at *
  generalize more e.item e.price (-e.qty) s.lines = ls2 at *
  obtain ⟨order, status, prior, cur, tax, ls, paid, refunded, events, refused, stamp, who⟩ := s
  obtain ⟨ek, eo, ei, eq, ep, ec, et, ew, es, en⟩ := e
  obtain ⟨li, lp, lq, lsh⟩ := l
  unfold stcells evcells lncells at *
  unfold TurnPost stcells
  dsimp only at *
  have Hnn : Hid (∃ n, n = ls.length) := Lib.hid ⟨_, rfl⟩
  obtain ⟨n, hnn⟩ := Hnn.out
  rw [← hnn] at Hb hb K hlen hP KD HOw
  clear hnn Hnn ho
  rw [hq3] at HSet
  have hw : IntKind.i64.wrap (lq - eq) = lq - eq := by rw [IntKind.wrap_i64]; omega
  have hne : ((lq - eq) == 0) = true := by simp; omega
  have hwP : IntKind.i64.wrap ((P : Int) + 1) = (P : Int) + 1 := by rw [IntKind.wrap_i64]; omega
  have HS := Lib.hid (fun w' (h1 : Ext W0 w') (h2 : Blk w' g 25 #[.int .i64 order, .int .i64 status, .int .i64 prior, .int .i64 cur, .int .i64 tax, .slice (some ⟨lb, 0, none⟩) n c, .int .i64 paid, .int .i64 refunded, .int .i64 events, .int .i64 refused, .int .i64 stamp, .string who]) (h3 : OwnLs w' W0.heap.size (some ⟨lb, 0, none⟩) ls c) (h4 : Blk w' w.heap.size 38 #[.int .i64 ek, .int .i64 eo, .int .i64 ei, .int .i64 eq, .int .i64 ep, .int .i64 ec, .int .i64 et, .string ew, .int .i64 es, .string en]) => (⟨h1, h2, h3, h4, h2.frozen 1, h2.frozen 5, h2.cell 0, h2.cell 1, h2.cell 2, h2.cell 3, h2.cell 4, h2.cell 5, h2.cell 6, h2.cell 7, h2.cell 8, h2.cell 9, h2.cell 10, h2.cell 11, h4.cell 2, h4.cell 3, h4.cell 4, HLn.out w' h3 2 _ rfl, HFz.out w' h3 _, HLn.out w' h3 3 _ rfl, HFz.out w' h3 _⟩ : (fun w' : World => Ext W0 w' ∧ Blk w' g 25 #[.int .i64 order, .int .i64 status, .int .i64 prior, .int .i64 cur, .int .i64 tax, .slice (some ⟨lb, 0, none⟩) n c, .int .i64 paid, .int .i64 refunded, .int .i64 events, .int .i64 refused, .int .i64 stamp, .string who] ∧ OwnLs w' W0.heap.size (some ⟨lb, 0, none⟩) ls c ∧ Blk w' w.heap.size 38 #[.int .i64 ek, .int .i64 eo, .int .i64 ei, .int .i64 eq, .int .i64 ep, .int .i64 ec, .int .i64 et, .string ew, .int .i64 es, .string en] ∧ w'.frozen? ⟨g, 1, none⟩ = false ∧ w'.frozen? ⟨g, 5, none⟩ = false ∧ w'.cell? ⟨g, 0, none⟩ = some (.int .i64 order) ∧ w'.cell? ⟨g, 1, none⟩ = some (.int .i64 status) ∧ w'.cell? ⟨g, 2, none⟩ = some (.int .i64 prior) ∧ w'.cell? ⟨g, 3, none⟩ = some (.int .i64 cur) ∧ w'.cell? ⟨g, 4, none⟩ = some (.int .i64 tax) ∧ w'.cell? ⟨g, 5, none⟩ = some (.slice (some ⟨lb, 0, none⟩) n c) ∧ w'.cell? ⟨g, 6, none⟩ = some (.int .i64 paid) ∧ w'.cell? ⟨g, 7, none⟩ = some (.int .i64 refunded) ∧ w'.cell? ⟨g, 8, none⟩ = some (.int .i64 events) ∧ w'.cell? ⟨g, 9, none⟩ = some (.int .i64 refused) ∧ w'.cell? ⟨g, 10, none⟩ = some (.int .i64 stamp) ∧ w'.cell? ⟨g, 11, none⟩ = some (.string who) ∧ w'.cell? ⟨w.heap.size, 2, none⟩ = some (.int .i64 ei) ∧ w'.cell? ⟨w.heap.size, 3, none⟩ = some (.int .i64 eq) ∧ w'.cell? ⟨w.heap.size, 4, none⟩ = some (.int .i64 ep) ∧ w'.cell? ⟨lb, P * 4 + 2, none⟩ = some (.int .i64 lq) ∧ w'.frozen? ⟨lb, P * 4 + 2, none⟩ = false ∧ w'.cell? ⟨lb, P * 4 + 3, none⟩ = some (.int .i64 lsh) ∧ w'.frozen? ⟨lb, P * 4 + 3, none⟩ = false) w'))
  (have a0 : World.cell? w ⟨g, 0, none⟩ = some (.int .i64 order) := Blk.cell hb 0; have a1 : World.cell? w ⟨g, 1, none⟩ = some (.int .i64 status) := Blk.cell hb 1; have a2 : World.cell? w ⟨g, 2, none⟩ = some (.int .i64 prior) := Blk.cell hb 2; have a3 : World.cell? w ⟨g, 3, none⟩ = some (.int .i64 cur) := Blk.cell hb 3; have a4 : World.cell? w ⟨g, 4, none⟩ = some (.int .i64 tax) := Blk.cell hb 4; have a5 : World.cell? w ⟨g, 5, none⟩ = some _ := Blk.cell hb 5; have a6 : World.cell? w ⟨g, 6, none⟩ = some (.int .i64 paid) := Blk.cell hb 6; have a7 : World.cell? w ⟨g, 7, none⟩ = some (.int .i64 refunded) := Blk.cell hb 7; have a8 : World.cell? w ⟨g, 8, none⟩ = some (.int .i64 events) := Blk.cell hb 8; have a9 : World.cell? w ⟨g, 9, none⟩ = some (.int .i64 refused) := Blk.cell hb 9; have a10 : World.cell? w ⟨g, 10, none⟩ = some (.int .i64 stamp) := Blk.cell hb 10; have a11 : World.cell? w ⟨g, 11, none⟩ = some (.string who) := Blk.cell hb 11)
  clear hb
  go_enter Tryz.func51, Tryz.ntmps51
  go_wp2_with fail
  go_region_held3 (fun w' : World => Ext W0 w' ∧ Blk w' g 25 #[.int .i64 order, .int .i64 status, .int .i64 prior, .int .i64 cur, .int .i64 tax, .slice (some ⟨lb, 0, none⟩) n c, .int .i64 paid, .int .i64 refunded, .int .i64 events, .int .i64 refused, .int .i64 stamp, .string who] ∧ OwnLs w' W0.heap.size (some ⟨lb, 0, none⟩) ls c ∧ Blk w' w.heap.size 38 #[.int .i64 ek, .int .i64 eo, .int .i64 ei, .int .i64 eq, .int .i64 ep, .int .i64 ec, .int .i64 et, .string ew, .int .i64 es, .string en] ∧ w'.frozen? ⟨g, 1, none⟩ = false ∧ w'.frozen? ⟨g, 5, none⟩ = false ∧ w'.cell? ⟨g, 0, none⟩ = some (.int .i64 order) ∧ w'.cell? ⟨g, 1, none⟩ = some (.int .i64 status) ∧ w'.cell? ⟨g, 2, none⟩ = some (.int .i64 prior) ∧ w'.cell? ⟨g, 3, none⟩ = some (.int .i64 cur) ∧ w'.cell? ⟨g, 4, none⟩ = some (.int .i64 tax) ∧ w'.cell? ⟨g, 5, none⟩ = some (.slice (some ⟨lb, 0, none⟩) n c) ∧ w'.cell? ⟨g, 6, none⟩ = some (.int .i64 paid) ∧ w'.cell? ⟨g, 7, none⟩ = some (.int .i64 refunded) ∧ w'.cell? ⟨g, 8, none⟩ = some (.int .i64 events) ∧ w'.cell? ⟨g, 9, none⟩ = some (.int .i64 refused) ∧ w'.cell? ⟨g, 10, none⟩ = some (.int .i64 stamp) ∧ w'.cell? ⟨g, 11, none⟩ = some (.string who) ∧ w'.cell? ⟨w.heap.size, 2, none⟩ = some (.int .i64 ei) ∧ w'.cell? ⟨w.heap.size, 3, none⟩ = some (.int .i64 eq) ∧ w'.cell? ⟨w.heap.size, 4, none⟩ = some (.int .i64 ep) ∧ w'.cell? ⟨lb, P * 4 + 2, none⟩ = some (.int .i64 lq) ∧ w'.frozen? ⟨lb, P * 4 + 2, none⟩ = false ∧ w'.cell? ⟨lb, P * 4 + 3, none⟩ = some (.int .i64 lsh) ∧ w'.frozen? ⟨lb, P * 4 + 3, none⟩ = false) (exact HS.out _ (by repeat (first | with_reducible exact Below.refl _ _ | with_reducible assumption | with_reducible refine ExtD ?_ | with_reducible refine ExtDN ?_ | with_reducible refine ExtA ?_ | (with_reducible refine ExtR ?_ ?_; (first | omega | (dsimp only; omega) | (simp; done) | (simp; omega))) | (with_reducible refine ExtS ?_ ?_; (first | omega | (dsimp only; omega) | (simp; done) | (simp; omega))) | with_reducible refine Ext.tr ?_ (by with_reducible assumption))) (by apply Blk_eq; (· (repeat (first | with_reducible exact Hb.out | with_reducible assumption | with_reducible apply BlkD | with_reducible apply BlkDN | with_reducible apply BlkA | with_reducible apply BlkS | (with_reducible apply BlkF; rotate_left; (first | omega | (dsimp only; omega) | (simp; done) | (simp; omega))) | (with_reducible apply BlkE; rotate_left; with_reducible assumption)))); (· rfl)) (by repeat (first | with_reducible assumption | with_reducible exact Ho.out | with_reducible refine OwnD ?_ | with_reducible refine OwnDN ?_ | with_reducible refine OwnA ?_ | with_reducible refine OwnSt HN.out ?_ | with_reducible refine OwnLs.mono ?_ (by with_reducible assumption))) (by repeat (first | with_reducible assumption | (with_reducible refine BlkN ?_; (first | rfl | (first | omega | (dsimp only; omega) | (simp; done) | (simp; omega)))) | with_reducible refine BlkD ?_ | with_reducible refine BlkDN ?_ | with_reducible refine BlkA ?_ | (with_reducible refine BlkF ?_ ?_; (first | omega | (dsimp only; omega) | (simp; done) | (simp; omega))) | with_reducible refine BlkE ?_ (by with_reducible assumption)))) ((go_at_call 71; (with_reducible refine (K.out _ (by repeat (first | with_reducible assumption | with_reducible exact Ho.out | with_reducible refine OwnD ?_ | with_reducible refine OwnDN ?_ | with_reducible refine OwnA ?_ | with_reducible refine OwnSt HN.out ?_ | with_reducible refine OwnLs.mono ?_ (by with_reducible assumption)))).mono ?_); rintro e w1 ⟨rfl, hx1⟩; have h3 := (HS.out w1 (by repeat (first | with_reducible exact Below.refl _ _ | with_reducible assumption | with_reducible refine ExtD ?_ | with_reducible refine ExtDN ?_ | with_reducible refine ExtA ?_ | (with_reducible refine ExtR ?_ ?_; (first | omega | (dsimp only; omega) | (simp; done) | (simp; omega))) | (with_reducible refine ExtS ?_ ?_; (first | omega | (dsimp only; omega) | (simp; done) | (simp; omega))) | with_reducible refine Ext.tr ?_ (by with_reducible assumption))) (by apply Blk_eq; (· (repeat (first | with_reducible exact Hb.out | with_reducible assumption | with_reducible apply BlkD | with_reducible apply BlkDN | with_reducible apply BlkA | with_reducible apply BlkS | (with_reducible apply BlkF; rotate_left; (first | omega | (dsimp only; omega) | (simp; done) | (simp; omega))) | (with_reducible apply BlkE; rotate_left; with_reducible assumption)))); (· rfl)) (OwnLs.mono (by repeat (first | with_reducible assumption | with_reducible exact Ho.out | with_reducible refine OwnD ?_ | with_reducible refine OwnDN ?_ | with_reducible refine OwnA ?_ | with_reducible refine OwnSt HN.out ?_ | with_reducible refine OwnLs.mono ?_ (by with_reducible assumption))) hx1) (by repeat (first | with_reducible assumption | (with_reducible refine BlkN ?_; (first | rfl | (first | omega | (dsimp only; omega) | (simp; done) | (simp; omega)))) | with_reducible refine BlkD ?_ | with_reducible refine BlkDN ?_ | with_reducible refine BlkA ?_ | (with_reducible refine BlkF ?_ ?_; (first | omega | (dsimp only; omega) | (simp; done) | (simp; omega))) | with_reducible refine BlkE ?_ (by with_reducible assumption)))); go_split_ands))
  go_split_ands
  go_wp2_with fail
  go_region
  all_goals (go_wp2_with (go_at_call 73; (with_reducible refine (KD.out _ (by repeat (first | with_reducible assumption | with_reducible refine OwnD ?_ | with_reducible refine OwnDN ?_ | with_reducible refine OwnA ?_ | with_reducible refine HSet.out _ ?_ | with_reducible refine OwnSt HN.out ?_ | with_reducible exact Ho.out | with_reducible refine OwnLs.mono ?_ (by with_reducible assumption)))).mono ?_); rintro e w2 ⟨A2, c2, rfl, hg2, ho2⟩; have b2 : Blk w2 g 25 #[.int .i64 order, .int .i64 status, .int .i64 prior, .int .i64 cur, .int .i64 tax, .slice (some ⟨lb, 0, none⟩) n c, .int .i64 paid, .int .i64 refunded, .int .i64 events, .int .i64 refused, .int .i64 stamp, .string who] := BlkG (by repeat (first | with_reducible assumption | (with_reducible refine BlkN ?_; (first | rfl | (first | omega | (dsimp only; omega) | (simp; done) | (simp; omega)))) | with_reducible refine BlkD ?_ | with_reducible refine BlkDN ?_ | with_reducible refine BlkA ?_ | (with_reducible refine BlkF ?_ ?_; (first | omega | (dsimp only; omega) | (simp; done) | (simp; omega))) | with_reducible refine BlkE ?_ (by with_reducible assumption))) hg2 (fun h => HN.out _ _ h.symm); have z1 := b2.cell 5; have z2 := b2.frozen 5; have hX2 : Ext W0 w2 := Ext.grown (by repeat (first | with_reducible exact Below.refl _ _ | with_reducible assumption | with_reducible refine ExtD ?_ | with_reducible refine ExtDN ?_ | with_reducible refine ExtA ?_ | (with_reducible refine ExtR ?_ ?_; (first | omega | (dsimp only; omega) | (simp; done) | (simp; omega))) | (with_reducible refine ExtS ?_ ?_; (first | omega | (dsimp only; omega) | (simp; done) | (simp; omega))) | with_reducible refine Ext.tr ?_ (by with_reducible assumption))) hg2 (fun r hr => (HOw.out r hr).1)))
  ((try simp only [Exit.inBlock, Exit.then]); first | refine bodyPost_ret (results_none rfl _ _ _) rfl ?_ | refine bodyPost_end (results_none rfl _ _ _) rfl ?_)
  have hap := own_apart ho2 b2
  exact ⟨A2, c2, rfl, (by repeat (first | with_reducible exact Below.refl _ _ | with_reducible assumption | with_reducible refine ExtD ?_ | with_reducible refine ExtDN ?_ | with_reducible refine ExtA ?_ | (with_reducible refine ExtR ?_ ?_; (first | omega | (dsimp only; omega) | (simp; done) | (simp; omega))) | (with_reducible refine ExtS ?_ ?_; (first | omega | (dsimp only; omega) | (simp; done) | (simp; omega))) | with_reducible refine Ext.tr ?_ (by with_reducible assumption))), (by apply Blk_eq; (· (repeat (first | with_reducible exact Hb.out | with_reducible assumption | with_reducible apply BlkD | with_reducible apply BlkDN | with_reducible apply BlkA | with_reducible apply BlkS | (with_reducible apply BlkF; rotate_left; (first | omega | (dsimp only; omega) | (simp; done) | (simp; omega))) | (with_reducible apply BlkE; rotate_left; with_reducible assumption)))); (· rfl)), OwnSt hap ho2⟩
end Go.Proofs.YtjomgppbialeoaaGreat

namespace Go.Proofs.YtjomgppbialeoaaGreat
open Go.RowKit
set_option linter.unusedVariables false
set_option linter.unusedSimpArgs false
set_option maxRecDepth 100000 in
set_option maxHeartbeats 4000000 in
theorem ship_any (s : St) (e : Ev) (A : Option Addr) (c g : Nat) (W0 w : World) (hx : Ext W0 w) (hg : W0.heap.size ≤ g) (hb : Blk w g 25 (stcells s A c)) (ho : OwnLs w W0.heap.size A s.lines c) (hlen : s.lines.length ≤ 16) (hr : risesB (-1) s.lines = true) (he : EOk e) (ht : thereB e.item s.lines = true) (hq2 : ∀ h : posOf e.item s.lines < s.lines.length, e.qty ≤ (s.lines[posOf e.item s.lines]).qty - (s.lines[posOf e.item s.lines]).shipped) :
    Calls Tryz.prog 49 #[.pointer (some ⟨g, 0, none⟩), .agg (evcells e)] w (TurnPost W0 g { s with lines := shipL e.item e.qty s.lines, status := if allB (shipL e.item e.qty s.lines) = true then 4 else s.status }) := by
  obtain ⟨hP, hPi⟩ := pos_there hr ht
  have hM := ship_there (q := e.qty) hr ht hP
  have hlk := (lnB_iff.1 (rises_mem hr _ (List.getElem_mem hP)).1).2.2
  have hq := he.qty
  have hq3 := hq2 hP
  have K := Lib.hid fun W (h : OwnLs W W0.heap.size A s.lines c) => find_any s e.item A c W h.rd hlen hr he.item
  rw [ht] at K
  obtain ⟨lb, _, rfl, _, _⟩ := lown_blk ho (by omega)
  have Ho := Lib.hid ho
  have Hb := Lib.hid hb
  have HN := Lib.hid (own_apart ho hb)
  have hglb : g ≠ lb := fun h => HN.out 0 0 (by rw [h]; rfl)
  have hlbw := (World.ownsRow.lt ho lb rfl).1
  have hgw := hb.lt
  have HLn := Lib.hid fun w' (h : OwnLs w' W0.heap.size (some ⟨lb, 0, none⟩) s.lines c) => own_at h hP
  have HFz := Lib.hid fun w' (h : OwnLs w' W0.heap.size (some ⟨lb, 0, none⟩) s.lines c) => own_frozen_ h
  have HSet := Lib.hid fun w' (h : OwnLs w' W0.heap.size (some ⟨lb, 0, none⟩) s.lines c) => own_set (f := 3) (v := .int .i64 ((s.lines[posOf e.item s.lines]).shipped + e.qty)) (l := ⟨(s.lines[posOf e.item s.lines]).item, (s.lines[posOf e.item s.lines]).price, (s.lines[posOf e.item s.lines]).qty, (s.lines[posOf e.item s.lines]).shipped + e.qty⟩) h hP (by omega) rfl
  clear hr he ht hPi hq2
  rw [← hM] at HSet
  have hML : (shipL e.item e.qty s.lines).length = s.lines.length := by rw [hM, List.length_set]
  have KS := Lib.hid fun W (h : OwnLs W W0.heap.size (some ⟨lb, 0, none⟩) (shipL e.item e.qty s.lines) c) => shipped_any { s with lines := shipL e.item e.qty s.lines } (some ⟨lb, 0, none⟩) c W h.rd (by show (shipL e.item e.qty s.lines).length ≤ _; rw [hML]; omega)
  clear hM
  generalize s.lines[posOf e.item s.lines] = l at *
  generalize posOf e.item s.lines = P at *
  generalize shipL e.item e.qty s.lines = ls2 at *
  generalize allB ls2 = B at *
  generalize noneB ls2 = B0 at *
  obtain ⟨order, status, prior, cur, tax, ls, paid, refunded, events, refused, stamp, who⟩ := s
  obtain ⟨ek, eo, ei, eq, ep, ec, et, ew, es, en⟩ := e
  obtain ⟨li, lp, lq, lsh⟩ := l
  unfold stcells evcells lncells at *
  unfold TurnPost stcells
  dsimp only at *
  rw [hML] at KS ⊢
  have Hnn : Hid (∃ n, n = ls.length) := Lib.hid ⟨_, rfl⟩
  obtain ⟨n, hnn⟩ := Hnn.out
  rw [← hnn] at Hb hb K hlen hP KS ⊢
  clear hnn Hnn ho
  have hw : IntKind.i64.wrap (lsh + eq) = lsh + eq := by rw [IntKind.wrap_i64]; omega
  have HS := Lib.hid (fun w' (h1 : Ext W0 w') (h2 : Blk w' g 25 #[.int .i64 order, .int .i64 status, .int .i64 prior, .int .i64 cur, .int .i64 tax, .slice (some ⟨lb, 0, none⟩) n c, .int .i64 paid, .int .i64 refunded, .int .i64 events, .int .i64 refused, .int .i64 stamp, .string who]) (h3 : OwnLs w' W0.heap.size (some ⟨lb, 0, none⟩) ls c) (h4 : Blk w' w.heap.size 38 #[.int .i64 ek, .int .i64 eo, .int .i64 ei, .int .i64 eq, .int .i64 ep, .int .i64 ec, .int .i64 et, .string ew, .int .i64 es, .string en]) => (⟨h1, h2, h3, h4, h2.frozen 1, h2.frozen 5, h2.cell 0, h2.cell 1, h2.cell 2, h2.cell 3, h2.cell 4, h2.cell 5, h2.cell 6, h2.cell 7, h2.cell 8, h2.cell 9, h2.cell 10, h2.cell 11, h4.cell 2, h4.cell 3, h4.cell 4, HLn.out w' h3 2 _ rfl, HFz.out w' h3 _, HLn.out w' h3 3 _ rfl, HFz.out w' h3 _⟩ : (fun w' : World => Ext W0 w' ∧ Blk w' g 25 #[.int .i64 order, .int .i64 status, .int .i64 prior, .int .i64 cur, .int .i64 tax, .slice (some ⟨lb, 0, none⟩) n c, .int .i64 paid, .int .i64 refunded, .int .i64 events, .int .i64 refused, .int .i64 stamp, .string who] ∧ OwnLs w' W0.heap.size (some ⟨lb, 0, none⟩) ls c ∧ Blk w' w.heap.size 38 #[.int .i64 ek, .int .i64 eo, .int .i64 ei, .int .i64 eq, .int .i64 ep, .int .i64 ec, .int .i64 et, .string ew, .int .i64 es, .string en] ∧ w'.frozen? ⟨g, 1, none⟩ = false ∧ w'.frozen? ⟨g, 5, none⟩ = false ∧ w'.cell? ⟨g, 0, none⟩ = some (.int .i64 order) ∧ w'.cell? ⟨g, 1, none⟩ = some (.int .i64 status) ∧ w'.cell? ⟨g, 2, none⟩ = some (.int .i64 prior) ∧ w'.cell? ⟨g, 3, none⟩ = some (.int .i64 cur) ∧ w'.cell? ⟨g, 4, none⟩ = some (.int .i64 tax) ∧ w'.cell? ⟨g, 5, none⟩ = some (.slice (some ⟨lb, 0, none⟩) n c) ∧ w'.cell? ⟨g, 6, none⟩ = some (.int .i64 paid) ∧ w'.cell? ⟨g, 7, none⟩ = some (.int .i64 refunded) ∧ w'.cell? ⟨g, 8, none⟩ = some (.int .i64 events) ∧ w'.cell? ⟨g, 9, none⟩ = some (.int .i64 refused) ∧ w'.cell? ⟨g, 10, none⟩ = some (.int .i64 stamp) ∧ w'.cell? ⟨g, 11, none⟩ = some (.string who) ∧ w'.cell? ⟨w.heap.size, 2, none⟩ = some (.int .i64 ei) ∧ w'.cell? ⟨w.heap.size, 3, none⟩ = some (.int .i64 eq) ∧ w'.cell? ⟨w.heap.size, 4, none⟩ = some (.int .i64 ep) ∧ w'.cell? ⟨lb, P * 4 + 2, none⟩ = some (.int .i64 lq) ∧ w'.frozen? ⟨lb, P * 4 + 2, none⟩ = false ∧ w'.cell? ⟨lb, P * 4 + 3, none⟩ = some (.int .i64 lsh) ∧ w'.frozen? ⟨lb, P * 4 + 3, none⟩ = false) w'))
  (have a0 : World.cell? w ⟨g, 0, none⟩ = some (.int .i64 order) := Blk.cell hb 0; have a1 : World.cell? w ⟨g, 1, none⟩ = some (.int .i64 status) := Blk.cell hb 1; have a2 : World.cell? w ⟨g, 2, none⟩ = some (.int .i64 prior) := Blk.cell hb 2; have a3 : World.cell? w ⟨g, 3, none⟩ = some (.int .i64 cur) := Blk.cell hb 3; have a4 : World.cell? w ⟨g, 4, none⟩ = some (.int .i64 tax) := Blk.cell hb 4; have a5 : World.cell? w ⟨g, 5, none⟩ = some _ := Blk.cell hb 5; have a6 : World.cell? w ⟨g, 6, none⟩ = some (.int .i64 paid) := Blk.cell hb 6; have a7 : World.cell? w ⟨g, 7, none⟩ = some (.int .i64 refunded) := Blk.cell hb 7; have a8 : World.cell? w ⟨g, 8, none⟩ = some (.int .i64 events) := Blk.cell hb 8; have a9 : World.cell? w ⟨g, 9, none⟩ = some (.int .i64 refused) := Blk.cell hb 9; have a10 : World.cell? w ⟨g, 10, none⟩ = some (.int .i64 stamp) := Blk.cell hb 10; have a11 : World.cell? w ⟨g, 11, none⟩ = some (.string who) := Blk.cell hb 11)
  clear hb
  go_enter Tryz.func49, Tryz.ntmps49
  go_wp2_with fail
  go_region_held3 (fun w' : World => Ext W0 w' ∧ Blk w' g 25 #[.int .i64 order, .int .i64 status, .int .i64 prior, .int .i64 cur, .int .i64 tax, .slice (some ⟨lb, 0, none⟩) n c, .int .i64 paid, .int .i64 refunded, .int .i64 events, .int .i64 refused, .int .i64 stamp, .string who] ∧ OwnLs w' W0.heap.size (some ⟨lb, 0, none⟩) ls c ∧ Blk w' w.heap.size 38 #[.int .i64 ek, .int .i64 eo, .int .i64 ei, .int .i64 eq, .int .i64 ep, .int .i64 ec, .int .i64 et, .string ew, .int .i64 es, .string en] ∧ w'.frozen? ⟨g, 1, none⟩ = false ∧ w'.frozen? ⟨g, 5, none⟩ = false ∧ w'.cell? ⟨g, 0, none⟩ = some (.int .i64 order) ∧ w'.cell? ⟨g, 1, none⟩ = some (.int .i64 status) ∧ w'.cell? ⟨g, 2, none⟩ = some (.int .i64 prior) ∧ w'.cell? ⟨g, 3, none⟩ = some (.int .i64 cur) ∧ w'.cell? ⟨g, 4, none⟩ = some (.int .i64 tax) ∧ w'.cell? ⟨g, 5, none⟩ = some (.slice (some ⟨lb, 0, none⟩) n c) ∧ w'.cell? ⟨g, 6, none⟩ = some (.int .i64 paid) ∧ w'.cell? ⟨g, 7, none⟩ = some (.int .i64 refunded) ∧ w'.cell? ⟨g, 8, none⟩ = some (.int .i64 events) ∧ w'.cell? ⟨g, 9, none⟩ = some (.int .i64 refused) ∧ w'.cell? ⟨g, 10, none⟩ = some (.int .i64 stamp) ∧ w'.cell? ⟨g, 11, none⟩ = some (.string who) ∧ w'.cell? ⟨w.heap.size, 2, none⟩ = some (.int .i64 ei) ∧ w'.cell? ⟨w.heap.size, 3, none⟩ = some (.int .i64 eq) ∧ w'.cell? ⟨w.heap.size, 4, none⟩ = some (.int .i64 ep) ∧ w'.cell? ⟨lb, P * 4 + 2, none⟩ = some (.int .i64 lq) ∧ w'.frozen? ⟨lb, P * 4 + 2, none⟩ = false ∧ w'.cell? ⟨lb, P * 4 + 3, none⟩ = some (.int .i64 lsh) ∧ w'.frozen? ⟨lb, P * 4 + 3, none⟩ = false) (exact HS.out _ (by repeat (first | with_reducible exact Below.refl _ _ | with_reducible assumption | with_reducible refine ExtD ?_ | with_reducible refine ExtDN ?_ | with_reducible refine ExtA ?_ | (with_reducible refine ExtR ?_ ?_; (first | omega | (dsimp only; omega) | (simp; done) | (simp; omega))) | (with_reducible refine ExtS ?_ ?_; (first | omega | (dsimp only; omega) | (simp; done) | (simp; omega))) | with_reducible refine Ext.tr ?_ (by with_reducible assumption))) (by apply Blk_eq; (· (repeat (first | with_reducible exact Hb.out | with_reducible assumption | with_reducible apply BlkD | with_reducible apply BlkDN | with_reducible apply BlkA | with_reducible apply BlkS | (with_reducible apply BlkF; rotate_left; (first | omega | (dsimp only; omega) | (simp; done) | (simp; omega))) | (with_reducible apply BlkE; rotate_left; with_reducible assumption)))); (· rfl)) (by repeat (first | with_reducible assumption | with_reducible exact Ho.out | with_reducible refine OwnD ?_ | with_reducible refine OwnDN ?_ | with_reducible refine OwnA ?_ | with_reducible refine OwnSt HN.out ?_ | with_reducible refine OwnLs.mono ?_ (by with_reducible assumption))) (by repeat (first | with_reducible assumption | (with_reducible refine BlkN ?_; (first | rfl | (first | omega | (dsimp only; omega) | (simp; done) | (simp; omega)))) | with_reducible refine BlkD ?_ | with_reducible refine BlkDN ?_ | with_reducible refine BlkA ?_ | (with_reducible refine BlkF ?_ ?_; (first | omega | (dsimp only; omega) | (simp; done) | (simp; omega))) | with_reducible refine BlkE ?_ (by with_reducible assumption)))) ((go_at_call 71; (with_reducible refine (K.out _ (by repeat (first | with_reducible assumption | with_reducible exact Ho.out | with_reducible refine OwnD ?_ | with_reducible refine OwnDN ?_ | with_reducible refine OwnA ?_ | with_reducible refine OwnSt HN.out ?_ | with_reducible refine OwnLs.mono ?_ (by with_reducible assumption)))).mono ?_); rintro e w1 ⟨rfl, hx1⟩; have h3 := (HS.out w1 (by repeat (first | with_reducible exact Below.refl _ _ | with_reducible assumption | with_reducible refine ExtD ?_ | with_reducible refine ExtDN ?_ | with_reducible refine ExtA ?_ | (with_reducible refine ExtR ?_ ?_; (first | omega | (dsimp only; omega) | (simp; done) | (simp; omega))) | (with_reducible refine ExtS ?_ ?_; (first | omega | (dsimp only; omega) | (simp; done) | (simp; omega))) | with_reducible refine Ext.tr ?_ (by with_reducible assumption))) (by apply Blk_eq; (· (repeat (first | with_reducible exact Hb.out | with_reducible assumption | with_reducible apply BlkD | with_reducible apply BlkDN | with_reducible apply BlkA | with_reducible apply BlkS | (with_reducible apply BlkF; rotate_left; (first | omega | (dsimp only; omega) | (simp; done) | (simp; omega))) | (with_reducible apply BlkE; rotate_left; with_reducible assumption)))); (· rfl)) (OwnLs.mono (by repeat (first | with_reducible assumption | with_reducible exact Ho.out | with_reducible refine OwnD ?_ | with_reducible refine OwnDN ?_ | with_reducible refine OwnA ?_ | with_reducible refine OwnSt HN.out ?_ | with_reducible refine OwnLs.mono ?_ (by with_reducible assumption))) hx1) (by repeat (first | with_reducible assumption | (with_reducible refine BlkN ?_; (first | rfl | (first | omega | (dsimp only; omega) | (simp; done) | (simp; omega)))) | with_reducible refine BlkD ?_ | with_reducible refine BlkDN ?_ | with_reducible refine BlkA ?_ | (with_reducible refine BlkF ?_ ?_; (first | omega | (dsimp only; omega) | (simp; done) | (simp; omega))) | with_reducible refine BlkE ?_ (by with_reducible assumption)))); go_split_ands))
  go_split_ands
  go_wp2_with fail
  go_region
  cases B with
  | true =>
    go_wp2_with (go_at_call 24; (with_reducible refine (KS.out _ (by repeat (first | with_reducible assumption | with_reducible refine OwnD ?_ | with_reducible refine OwnDN ?_ | with_reducible refine OwnA ?_ | with_reducible refine HSet.out _ ?_ | with_reducible refine OwnSt HN.out ?_ | with_reducible exact Ho.out | with_reducible refine OwnLs.mono ?_ (by with_reducible assumption)))).mono ?_); rintro e w2 ⟨rfl, hx2⟩; have b2 : Blk w2 g 25 #[.int .i64 order, .int .i64 status, .int .i64 prior, .int .i64 cur, .int .i64 tax, .slice (some ⟨lb, 0, none⟩) n c, .int .i64 paid, .int .i64 refunded, .int .i64 events, .int .i64 refused, .int .i64 stamp, .string who] := (by repeat (first | with_reducible assumption | (with_reducible refine BlkN ?_; (first | rfl | (first | omega | (dsimp only; omega) | (simp; done) | (simp; omega)))) | with_reducible refine BlkD ?_ | with_reducible refine BlkDN ?_ | with_reducible refine BlkA ?_ | (with_reducible refine BlkF ?_ ?_; (first | omega | (dsimp only; omega) | (simp; done) | (simp; omega))) | with_reducible refine BlkE ?_ (by with_reducible assumption))); have z1 := b2.cell 1; have z2 := b2.frozen 1; have o2 : OwnLs w2 W0.heap.size (some ⟨lb, 0, none⟩) ls2 c := OwnLs.mono (by repeat (first | with_reducible assumption | with_reducible refine OwnD ?_ | with_reducible refine OwnDN ?_ | with_reducible refine OwnA ?_ | with_reducible refine HSet.out _ ?_ | with_reducible refine OwnSt HN.out ?_ | with_reducible exact Ho.out | with_reducible refine OwnLs.mono ?_ (by with_reducible assumption))) hx2)
    ((try simp only [Exit.inBlock, Exit.then]); first | refine bodyPost_ret (results_none rfl _ _ _) rfl ?_ | refine bodyPost_end (results_none rfl _ _ _) rfl ?_)
    exact ⟨rfl, (by repeat (first | with_reducible exact Below.refl _ _ | with_reducible assumption | with_reducible refine ExtD ?_ | with_reducible refine ExtDN ?_ | with_reducible refine ExtA ?_ | (with_reducible refine ExtR ?_ ?_; (first | omega | (dsimp only; omega) | (simp; done) | (simp; omega))) | (with_reducible refine ExtS ?_ ?_; (first | omega | (dsimp only; omega) | (simp; done) | (simp; omega))) | with_reducible refine Ext.tr ?_ (by with_reducible assumption))), some ⟨lb, 0, none⟩, c, (by apply Blk_eq; (· (repeat (first | with_reducible exact Hb.out | with_reducible assumption | with_reducible apply BlkD | with_reducible apply BlkDN | with_reducible apply BlkA | with_reducible apply BlkS | (with_reducible apply BlkF; rotate_left; (first | omega | (dsimp only; omega) | (simp; done) | (simp; omega))) | (with_reducible apply BlkE; rotate_left; with_reducible assumption)))); (· rfl)), OwnSt HN.out o2⟩
  | false =>
    go_wp2_with (go_at_call 24; (with_reducible refine (KS.out _ (by repeat (first | with_reducible assumption | with_reducible refine OwnD ?_ | with_reducible refine OwnDN ?_ | with_reducible refine OwnA ?_ | with_reducible refine HSet.out _ ?_ | with_reducible refine OwnSt HN.out ?_ | with_reducible exact Ho.out | with_reducible refine OwnLs.mono ?_ (by with_reducible assumption)))).mono ?_); rintro e w2 ⟨rfl, hx2⟩; have b2 : Blk w2 g 25 #[.int .i64 order, .int .i64 status, .int .i64 prior, .int .i64 cur, .int .i64 tax, .slice (some ⟨lb, 0, none⟩) n c, .int .i64 paid, .int .i64 refunded, .int .i64 events, .int .i64 refused, .int .i64 stamp, .string who] := (by repeat (first | with_reducible assumption | (with_reducible refine BlkN ?_; (first | rfl | (first | omega | (dsimp only; omega) | (simp; done) | (simp; omega)))) | with_reducible refine BlkD ?_ | with_reducible refine BlkDN ?_ | with_reducible refine BlkA ?_ | (with_reducible refine BlkF ?_ ?_; (first | omega | (dsimp only; omega) | (simp; done) | (simp; omega))) | with_reducible refine BlkE ?_ (by with_reducible assumption))); have o2 : OwnLs w2 W0.heap.size (some ⟨lb, 0, none⟩) ls2 c := OwnLs.mono (by repeat (first | with_reducible assumption | with_reducible refine OwnD ?_ | with_reducible refine OwnDN ?_ | with_reducible refine OwnA ?_ | with_reducible refine HSet.out _ ?_ | with_reducible refine OwnSt HN.out ?_ | with_reducible exact Ho.out | with_reducible refine OwnLs.mono ?_ (by with_reducible assumption))) hx2)
    ((try simp only [Exit.inBlock, Exit.then]); first | refine bodyPost_ret (results_none rfl _ _ _) rfl ?_ | refine bodyPost_end (results_none rfl _ _ _) rfl ?_)
    exact ⟨rfl, (by repeat (first | with_reducible exact Below.refl _ _ | with_reducible assumption | with_reducible refine ExtD ?_ | with_reducible refine ExtDN ?_ | with_reducible refine ExtA ?_ | (with_reducible refine ExtR ?_ ?_; (first | omega | (dsimp only; omega) | (simp; done) | (simp; omega))) | (with_reducible refine ExtS ?_ ?_; (first | omega | (dsimp only; omega) | (simp; done) | (simp; omega))) | with_reducible refine Ext.tr ?_ (by with_reducible assumption))), some ⟨lb, 0, none⟩, c, (by apply Blk_eq; (· (repeat (first | with_reducible exact Hb.out | with_reducible assumption | with_reducible apply BlkD | with_reducible apply BlkDN | with_reducible apply BlkA | with_reducible apply BlkS | (with_reducible apply BlkF; rotate_left; (first | omega | (dsimp only; omega) | (simp; done) | (simp; omega))) | (with_reducible apply BlkE; rotate_left; with_reducible assumption)))); (· rfl)), o2⟩
end Go.Proofs.YtjomgppbialeoaaGreat

namespace Go.Proofs.YtjomgppbialeoaaGreat
open Go.RowKit
set_option linter.unusedVariables false
set_option linter.unusedSimpArgs false
theorem clear_step {ls : List Ln} {k : Nat} (hk : k < ls.length) : ∃ h : k < (clearL (ls.take k) ++ ls.drop k).length, (clearL (ls.take k) ++ ls.drop k)[k]'h = ls[k] ∧ (clearL (ls.take k) ++ ls.drop k).set k ⟨ls[k].item, ls[k].price, ls[k].qty, ls[k].qty⟩ = clearL (ls.take (k + 1)) ++ ls.drop (k + 1) := by
  have h1 : (clearL (ls.take k)).length = k := by simp [clearL]; omega
  have h2 : ls.drop k = ls[k] :: ls.drop (k + 1) := List.drop_eq_getElem_cons hk
  refine ⟨by rw [List.length_append, h1, List.length_drop]; omega, ?_, ?_⟩
  · rw [List.getElem_append_right (by omega)]
    simp [h1]
  · rw [List.set_append_right _ _ (by omega), h1, Nat.sub_self, h2, List.set_cons_zero, List.take_succ_eq_append_getElem hk]
    unfold clearL
    rw [List.map_append]
    simp only [List.map_cons, List.map_nil, List.append_assoc, List.cons_append, List.nil_append]
def ClR (W0 : World) (g c : Nat) (A : Option Addr) (cs : Array Value) (ls : List Ln) (c10 : Value) (wr : World) : Prop :=
  ∃ k : Nat, c10 = .int .i64 (k : Nat) ∧ k ≤ ls.length ∧ Ext W0 wr ∧ Blk wr g 25 cs ∧ OwnLs wr W0.heap.size A (clearL (ls.take k) ++ ls.drop k) c
set_option maxRecDepth 100000 in
set_option maxHeartbeats 4000000 in
theorem clear_any (s : St) (e : Ev) (A : Option Addr) (c g : Nat) (W0 w : World) (hx : Ext W0 w) (hg : W0.heap.size ≤ g) (hb : Blk w g 25 (stcells s A c)) (ho : OwnLs w W0.heap.size A s.lines c) (hlen : s.lines.length ≤ 16) :
    Calls Tryz.prog 55 #[.pointer (some ⟨g, 0, none⟩), .agg (evcells e)] w (TurnPost W0 g { s with lines := clearL s.lines, status := 4 }) := by
  have Ho := Lib.hid ho
  have Hb := Lib.hid hb
  have HN := Lib.hid (own_apart ho hb)
  have hgw := hb.lt
  clear ho
  obtain ⟨order, status, prior, cur, tax, ls, paid, refunded, events, refused, stamp, who⟩ := s
  obtain ⟨ek, eo, ei, eq, ep, ec, et, ew, es, en⟩ := e
  unfold stcells evcells at *
  unfold TurnPost stcells
  dsimp only at *
  have hcl : (clearL ls).length = ls.length := by simp [clearL]
  rw [hcl]
  have Hnn : Hid (∃ n, n = ls.length) := Lib.hid ⟨_, rfl⟩
  obtain ⟨n, hnn⟩ := Hnn.out
  rw [← hnn] at Hb hb hlen ⊢
  have Hn := Lib.hid hnn
  clear hnn Hnn hcl
  (have a0 : World.cell? w ⟨g, 0, none⟩ = some (.int .i64 order) := Blk.cell hb 0; have a1 : World.cell? w ⟨g, 1, none⟩ = some (.int .i64 status) := Blk.cell hb 1; have a2 : World.cell? w ⟨g, 2, none⟩ = some (.int .i64 prior) := Blk.cell hb 2; have a3 : World.cell? w ⟨g, 3, none⟩ = some (.int .i64 cur) := Blk.cell hb 3; have a4 : World.cell? w ⟨g, 4, none⟩ = some (.int .i64 tax) := Blk.cell hb 4; have a5 : World.cell? w ⟨g, 5, none⟩ = some _ := Blk.cell hb 5; have a6 : World.cell? w ⟨g, 6, none⟩ = some (.int .i64 paid) := Blk.cell hb 6; have a7 : World.cell? w ⟨g, 7, none⟩ = some (.int .i64 refunded) := Blk.cell hb 7; have a8 : World.cell? w ⟨g, 8, none⟩ = some (.int .i64 events) := Blk.cell hb 8; have a9 : World.cell? w ⟨g, 9, none⟩ = some (.int .i64 refused) := Blk.cell hb 9; have a10 : World.cell? w ⟨g, 10, none⟩ = some (.int .i64 stamp) := Blk.cell hb 10; have a11 : World.cell? w ⟨g, 11, none⟩ = some (.string who) := Blk.cell hb 11)
  clear hb
  go_enter Tryz.func55, Tryz.ntmps55
  go_wp2_with fail
  all_goals try go_region
  all_goals (go_wp2_with fail)
  go_loopw [10] (fun c10 wr => ClR W0 g c A #[.int .i64 order, .int .i64 status, .int .i64 prior, .int .i64 cur, .int .i64 tax, .slice A n c, .int .i64 paid, .int .i64 refunded, .int .i64 events, .int .i64 refused, .int .i64 stamp, .string who] ls c10 wr) (fun c10 _ => n - (intOf c10).toNat)
  case atStart => exact ⟨0, rfl, by omega, (by repeat (first | with_reducible exact Below.refl _ _ | with_reducible assumption | with_reducible refine ExtD ?_ | with_reducible refine ExtDN ?_ | with_reducible refine ExtA ?_ | (with_reducible refine ExtR ?_ ?_; (first | omega | (dsimp only; omega) | (simp; done) | (simp; omega))) | (with_reducible refine ExtS ?_ ?_; (first | omega | (dsimp only; omega) | (simp; done) | (simp; omega))) | with_reducible refine Ext.tr ?_ (by with_reducible assumption))), (by apply Blk_eq; (· (repeat (first | with_reducible exact Hb.out | with_reducible assumption | with_reducible apply BlkD | with_reducible apply BlkDN | with_reducible apply BlkA | with_reducible apply BlkS | (with_reducible apply BlkF; rotate_left; (first | omega | (dsimp only; omega) | (simp; done) | (simp; omega))) | (with_reducible apply BlkE; rotate_left; with_reducible assumption)))); (· rfl)), by rw [List.take_zero, List.drop_zero]; show OwnLs _ _ A ls c; exact (by repeat (first | with_reducible assumption | with_reducible exact Ho.out | with_reducible refine OwnD ?_ | with_reducible refine OwnDN ?_ | with_reducible refine OwnA ?_ | with_reducible refine OwnSt HN.out ?_ | with_reducible refine OwnLs.mono ?_ (by with_reducible assumption)))⟩
  case round =>
    obtain ⟨k, rfl, hk, hxr, hbr, hor⟩ := hrel
    rw [← Hn.out] at hk
    by_cases hlt : k < n
    · obtain ⟨hk2, hgt, hst⟩ := clear_step (ls := ls) (k := k) (by rw [← Hn.out]; exact hlt)
      obtain ⟨lb, _, rfl, hlbw, _⟩ := lown_blk hor (by omega)
      have hglb : g ≠ lb := fun h => HN.out 0 0 (by rw [h]; rfl)
      have hLn := own_at hor hk2
      rw [hgt] at hLn
      have HSet := Lib.hid (own_set (f := 3) (v := .int .i64 (ls[k]'(by rw [← Hn.out]; exact hlt)).qty) (l := ⟨(ls[k]'(by rw [← Hn.out]; exact hlt)).item, (ls[k]'(by rw [← Hn.out]; exact hlt)).price, (ls[k]'(by rw [← Hn.out]; exact hlt)).qty, (ls[k]'(by rw [← Hn.out]; exact hlt)).qty⟩) hor hk2 (by omega) (by rw [hgt]; rfl))
      rw [hst] at HSet
      have e2 := hLn 2 _ rfl
      have e3 := hLn 3 _ rfl
      have f3 := own_frozen_ hor (k * 4 + 3)
      clear hLn hst hgt hk2
      generalize (ls[k]'(by rw [← Hn.out]; exact hlt)) = l at *
      obtain ⟨li, lp, lq, lsh⟩ := l
      dsimp only at *
      have a5' : wr.cell? ⟨g, 5, none⟩ = some (.slice (some ⟨lb, 0, none⟩) n c) := hbr.cell 5
      have Hor := Lib.hid hor
      have Hbr := Lib.hid hbr
      clear hor a0 a1 a2 a3 a4 a6 a7 a8 a9 a10 a11
      go_wp2_with fail
      all_goals try go_region
      all_goals (go_wp2_with fail)
      refine And.intro ?_ ?_
      · exact ⟨k + 1, by go_num, by have := Hn.out; omega, (by repeat (first | with_reducible exact Below.refl _ _ | with_reducible assumption | with_reducible refine ExtD ?_ | with_reducible refine ExtDN ?_ | with_reducible refine ExtA ?_ | (with_reducible refine ExtR ?_ ?_; (first | omega | (dsimp only; omega) | (simp; done) | (simp; omega))) | (with_reducible refine ExtS ?_ ?_; (first | omega | (dsimp only; omega) | (simp; done) | (simp; omega))) | with_reducible refine Ext.tr ?_ (by with_reducible assumption))), (by apply Blk_eq; (· (repeat (first | with_reducible exact Hb.out | with_reducible assumption | with_reducible apply BlkD | with_reducible apply BlkDN | with_reducible apply BlkA | with_reducible apply BlkS | (with_reducible apply BlkF; rotate_left; (first | omega | (dsimp only; omega) | (simp; done) | (simp; omega))) | (with_reducible apply BlkE; rotate_left; with_reducible assumption)))); (· rfl)), OwnD HSet.out⟩
      · simp [intOf]; omega
    · obtain rfl : k = n := by omega
      have htk : ls.take k = ls := List.take_of_length_le (by have := Hn.out; omega)
      have hdk : ls.drop k = [] := List.drop_eq_nil_of_le (by have := Hn.out; omega)
      rw [htk, hdk, List.append_nil] at hor
      have f1 := hbr.frozen 1
      have b1 := hbr.cell 1
      clear a0 a1 a2 a3 a4 a5 a6 a7 a8 a9 a10 a11
      go_wp2_with fail
      all_goals try go_region
      all_goals (go_wp2_with fail)
      ((try simp only [Exit.inBlock, Exit.then]); first | refine bodyPost_ret (results_none rfl _ _ _) rfl ?_ | refine bodyPost_end (results_none rfl _ _ _) rfl ?_)
      exact ⟨A, c, rfl, (by repeat (first | with_reducible exact Below.refl _ _ | with_reducible assumption | with_reducible refine ExtD ?_ | with_reducible refine ExtDN ?_ | with_reducible refine ExtA ?_ | (with_reducible refine ExtR ?_ ?_; (first | omega | (dsimp only; omega) | (simp; done) | (simp; omega))) | (with_reducible refine ExtS ?_ ?_; (first | omega | (dsimp only; omega) | (simp; done) | (simp; omega))) | with_reducible refine Ext.tr ?_ (by with_reducible assumption))), (by apply Blk_eq; (· (repeat (first | with_reducible exact Hb.out | with_reducible assumption | with_reducible apply BlkD | with_reducible apply BlkDN | with_reducible apply BlkA | with_reducible apply BlkS | (with_reducible apply BlkF; rotate_left; (first | omega | (dsimp only; omega) | (simp; done) | (simp; omega))) | (with_reducible apply BlkE; rotate_left; with_reducible assumption)))); (· rfl)), OwnSt HN.out hor⟩
end Go.Proofs.YtjomgppbialeoaaGreat
