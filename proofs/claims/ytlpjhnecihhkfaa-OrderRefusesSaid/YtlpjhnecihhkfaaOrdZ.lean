/-
  The walk of the rule that clears.
-/
import Derived.Test.YtlpjhnecihhkfaaOrdY
namespace Go.Proofs.Ytlpjhnecihhkfaa
open Go.RowKit
set_option linter.unusedVariables false
set_option linter.unusedSimpArgs false
theorem clear_step {ls : List Ln} {k : Nat} (hk : k < ls.length) : ∃ h : k < (clearL (ls.take k) ++ ls.drop k).length, (clearL (ls.take k) ++ ls.drop k)[k]'h = ls[k] ∧ (clearL (ls.take k) ++ ls.drop k).set k ⟨ls[k].item, ls[k].price, ls[k].qty, ls[k].qty⟩ = clearL (ls.take (k + 1)) ++ ls.drop (k + 1) := by
  have h1 : (clearL (ls.take k)).length = k := by simp [clearL]; omega
  have h2 : ls.drop k = ls[k] :: ls.drop (k + 1) := List.drop_eq_getElem_cons hk
  refine ⟨by rw [List.length_append, h1, List.length_drop]; omega, ?_, ?_⟩
  · rw [List.getElem_append_right (by omega)]
    simp [h1]
  · rw [List.set_append_right _ _ (by omega), h1, Nat.sub_self, h2, List.set_cons_zero, List.take_succ_eq_append_getElem hk]
    unfold clearL
    rw [List.map_append]
    simp only [List.map_cons, List.map_nil, List.append_assoc, List.cons_append, List.nil_append]
def ClR (W0 : World) (g c : Nat) (A : Option Addr) (cs : Array Value) (ls : List Ln) (c10 : Value) (wr : World) : Prop :=
  ∃ k : Nat, c10 = .int .i64 (k : Nat) ∧ k ≤ ls.length ∧ Ext W0 wr ∧ Blk wr g 25 cs ∧ OwnLs wr W0.heap.size A (clearL (ls.take k) ++ ls.drop k) c
set_option maxRecDepth 100000 in
set_option maxHeartbeats 4000000 in
theorem clear_any (s : St) (e : Ev) (A : Option Addr) (c g : Nat) (W0 w : World) (hx : Ext W0 w) (hg : W0.heap.size ≤ g) (hb : Blk w g 25 (stcells s A c)) (ho : OwnLs w W0.heap.size A s.lines c) (hlen : s.lines.length ≤ 16) :
    Calls Try.prog 69 #[.pointer (some ⟨g, 0, none⟩), .agg (evcells e)] w (TurnPost W0 g { s with lines := clearL s.lines, status := 4 }) := by
  have Ho := Lib.hid ho
  have Hb := Lib.hid hb
  have HN := Lib.hid (own_apart ho hb)
  have hgw := hb.lt
  clear ho
  obtain ⟨order, status, prior, cur, tax, ls, paid, refunded, events, refused, stamp, who⟩ := s
  obtain ⟨ek, eo, ei, eq, ep, ec, et, ew, es, en⟩ := e
  unfold stcells evcells at *
  unfold TurnPost stcells
  dsimp only at *
  have hcl : (clearL ls).length = ls.length := by simp [clearL]
  rw [hcl]
  have Hnn : Hid (∃ n, n = ls.length) := Lib.hid ⟨_, rfl⟩
  obtain ⟨n, hnn⟩ := Hnn.out
  rw [← hnn] at Hb hb hlen ⊢
  have Hn := Lib.hid hnn
  clear hnn Hnn hcl
  (have a0 : World.cell? w ⟨g, 0, none⟩ = some (.int .i64 order) := Blk.cell hb 0; have a1 : World.cell? w ⟨g, 1, none⟩ = some (.int .i64 status) := Blk.cell hb 1; have a2 : World.cell? w ⟨g, 2, none⟩ = some (.int .i64 prior) := Blk.cell hb 2; have a3 : World.cell? w ⟨g, 3, none⟩ = some (.int .i64 cur) := Blk.cell hb 3; have a4 : World.cell? w ⟨g, 4, none⟩ = some (.int .i64 tax) := Blk.cell hb 4; have a5 : World.cell? w ⟨g, 5, none⟩ = some _ := Blk.cell hb 5; have a6 : World.cell? w ⟨g, 6, none⟩ = some (.int .i64 paid) := Blk.cell hb 6; have a7 : World.cell? w ⟨g, 7, none⟩ = some (.int .i64 refunded) := Blk.cell hb 7; have a8 : World.cell? w ⟨g, 8, none⟩ = some (.int .i64 events) := Blk.cell hb 8; have a9 : World.cell? w ⟨g, 9, none⟩ = some (.int .i64 refused) := Blk.cell hb 9; have a10 : World.cell? w ⟨g, 10, none⟩ = some (.int .i64 stamp) := Blk.cell hb 10; have a11 : World.cell? w ⟨g, 11, none⟩ = some (.string who) := Blk.cell hb 11)
  clear hb
  go_enter Try.func69, Try.ntmps69
  go_wp2_with fail
  all_goals try go_region
  all_goals (go_wp2_with fail)
  go_loopw [10] (fun c10 wr => ClR W0 g c A #[.int .i64 order, .int .i64 status, .int .i64 prior, .int .i64 cur, .int .i64 tax, .slice A n c, .int .i64 paid, .int .i64 refunded, .int .i64 events, .int .i64 refused, .int .i64 stamp, .string who] ls c10 wr) (fun c10 _ => n - (intOf c10).toNat)
  case atStart => exact ⟨0, rfl, by omega, (by repeat (first | with_reducible exact Below.refl _ _ | with_reducible assumption | with_reducible refine ExtD ?_ | with_reducible refine ExtDN ?_ | with_reducible refine ExtA ?_ | (with_reducible refine ExtR ?_ ?_; (first | omega | (dsimp only; omega) | (simp; done) | (simp; omega))) | (with_reducible refine ExtS ?_ ?_; (first | omega | (dsimp only; omega) | (simp; done) | (simp; omega))) | with_reducible refine Ext.tr ?_ (by with_reducible assumption))), (by apply Blk_eq; (· (repeat (first | with_reducible exact Hb.out | with_reducible assumption | with_reducible apply BlkD | with_reducible apply BlkDN | with_reducible apply BlkA | with_reducible apply BlkS | (with_reducible apply BlkF; rotate_left; (first | omega | (dsimp only; omega) | (simp; done) | (simp; omega))) | (with_reducible apply BlkE; rotate_left; with_reducible assumption)))); (· rfl)), by rw [List.take_zero, List.drop_zero]; show OwnLs _ _ A ls c; exact (by repeat (first | with_reducible assumption | with_reducible exact Ho.out | with_reducible refine OwnD ?_ | with_reducible refine OwnDN ?_ | with_reducible refine OwnA ?_ | with_reducible refine OwnSt HN.out ?_ | with_reducible refine OwnLs.mono ?_ (by with_reducible assumption)))⟩
  case round =>
    obtain ⟨k, rfl, hk, hxr, hbr, hor⟩ := hrel
    rw [← Hn.out] at hk
    by_cases hlt : k < n
    · obtain ⟨hk2, hgt, hst⟩ := clear_step (ls := ls) (k := k) (by rw [← Hn.out]; exact hlt)
      obtain ⟨lb, _, rfl, hlbw, _⟩ := own_blk hor (by omega)
      have hglb : g ≠ lb := fun h => HN.out 0 0 (by rw [h]; rfl)
      have hLn := own_at hor hk2
      rw [hgt] at hLn
      have HSet := Lib.hid (own_set (f := 3) (v := .int .i64 (ls[k]'(by rw [← Hn.out]; exact hlt)).qty) (l := ⟨(ls[k]'(by rw [← Hn.out]; exact hlt)).item, (ls[k]'(by rw [← Hn.out]; exact hlt)).price, (ls[k]'(by rw [← Hn.out]; exact hlt)).qty, (ls[k]'(by rw [← Hn.out]; exact hlt)).qty⟩) hor hk2 (by omega) (by rw [hgt]; rfl))
      rw [hst] at HSet
      have e2 := hLn 2 _ rfl
      have e3 := hLn 3 _ rfl
      have f3 := own_frozen_ hor (k * 4 + 3)
      clear hLn hst hgt hk2
      generalize (ls[k]'(by rw [← Hn.out]; exact hlt)) = l at *
      obtain ⟨li, lp, lq, lsh⟩ := l
      dsimp only at *
      have a5' : wr.cell? ⟨g, 5, none⟩ = some (.slice (some ⟨lb, 0, none⟩) n c) := hbr.cell 5
      have Hor := Lib.hid hor
      have Hbr := Lib.hid hbr
      clear hor a0 a1 a2 a3 a4 a6 a7 a8 a9 a10 a11
      go_wp2_with fail
      all_goals try go_region
      all_goals (go_wp2_with fail)
      refine And.intro ?_ ?_
      · exact ⟨k + 1, by go_num, by have := Hn.out; omega, (by repeat (first | with_reducible exact Below.refl _ _ | with_reducible assumption | with_reducible refine ExtD ?_ | with_reducible refine ExtDN ?_ | with_reducible refine ExtA ?_ | (with_reducible refine ExtR ?_ ?_; (first | omega | (dsimp only; omega) | (simp; done) | (simp; omega))) | (with_reducible refine ExtS ?_ ?_; (first | omega | (dsimp only; omega) | (simp; done) | (simp; omega))) | with_reducible refine Ext.tr ?_ (by with_reducible assumption))), (by apply Blk_eq; (· (repeat (first | with_reducible exact Hb.out | with_reducible assumption | with_reducible apply BlkD | with_reducible apply BlkDN | with_reducible apply BlkA | with_reducible apply BlkS | (with_reducible apply BlkF; rotate_left; (first | omega | (dsimp only; omega) | (simp; done) | (simp; omega))) | (with_reducible apply BlkE; rotate_left; with_reducible assumption)))); (· rfl)), OwnD HSet.out⟩
      · simp [intOf]; omega
    · obtain rfl : k = n := by omega
      have htk : ls.take k = ls := List.take_of_length_le (by have := Hn.out; omega)
      have hdk : ls.drop k = [] := List.drop_eq_nil_of_le (by have := Hn.out; omega)
      rw [htk, hdk, List.append_nil] at hor
      have f1 := hbr.frozen 1
      have b1 := hbr.cell 1
      clear a0 a1 a2 a3 a4 a5 a6 a7 a8 a9 a10 a11
      go_wp2_with fail
      all_goals try go_region
      all_goals (go_wp2_with fail)
      ((try simp only [Exit.inBlock, Exit.then]); first | refine bodyPost_ret (results_none rfl _ _ _) rfl ?_ | refine bodyPost_end (results_none rfl _ _ _) rfl ?_)
      exact ⟨A, c, rfl, (by repeat (first | with_reducible exact Below.refl _ _ | with_reducible assumption | with_reducible refine ExtD ?_ | with_reducible refine ExtDN ?_ | with_reducible refine ExtA ?_ | (with_reducible refine ExtR ?_ ?_; (first | omega | (dsimp only; omega) | (simp; done) | (simp; omega))) | (with_reducible refine ExtS ?_ ?_; (first | omega | (dsimp only; omega) | (simp; done) | (simp; omega))) | with_reducible refine Ext.tr ?_ (by with_reducible assumption))), (by apply Blk_eq; (· (repeat (first | with_reducible exact Hb.out | with_reducible assumption | with_reducible apply BlkD | with_reducible apply BlkDN | with_reducible apply BlkA | with_reducible apply BlkS | (with_reducible apply BlkF; rotate_left; (first | omega | (dsimp only; omega) | (simp; done) | (simp; omega))) | (with_reducible apply BlkE; rotate_left; with_reducible assumption)))); (· rfl)), OwnSt HN.out hor⟩
end Go.Proofs.Ytlpjhnecihhkfaa
