/-
  Orders in memory: lines, states, events; the walks of order.net and order.due.
-/
/-
  The walks of order.due, within, lined, shipped.
-/
/-
  The walk of order.lined.
-/
import Derived.Test.YtjomgppbialeoaaGreatNumW3
import Derived.Test.YtjomgppbialeoaaGreatOwn
import Derived.Test.YtjomgppbialeoaaGreatOrdP
import Derived.Deep.MidRow
namespace Go.Proofs.YtjomgppbialeoaaGreat
open Go.RowKit
set_option linter.unusedVariables false
set_option linter.unusedSimpArgs false
def lncells (l : Ln) : Array Value := #[.int .i64 l.item, .int .i64 l.price, .int .i64 l.qty, .int .i64 l.shipped]
def lnCells (ls : List Ln) : List Value := ls.flatMap fun l => (lncells l).toList
/-- A slice of lines that reads as ls. -/
def LsRd (w : World) (A : Option Addr) (ls : List Ln) : Prop := RdN w 4 A ls.length (lnCells ls)
def stcells (s : St) (A : Option Addr) (c : Nat) : Array Value :=
  #[.int .i64 s.order, .int .i64 s.status, .int .i64 s.prior, .int .i64 s.cur, .int .i64 s.tax, .slice A s.lines.length c, .int .i64 s.paid, .int .i64 s.refunded, .int .i64 s.events, .int .i64 s.refused, .int .i64 s.stamp, .string s.who]
def evcells (e : Ev) : Array Value :=
  #[.int .i64 e.kind, .int .i64 e.order, .int .i64 e.item, .int .i64 e.qty, .int .i64 e.price, .int .i64 e.cur, .int .i64 e.tax, .string e.who, .int .i64 e.stamp, .string e.note]
theorem ln_wide : Wide Tryz.prog 44 4 := ⟨⟨_, Tryz.underlying44, rfl⟩, by kernel_rfl⟩
theorem st_wide : Wide Tryz.prog 25 12 := ⟨⟨_, Tryz.underlying25, rfl⟩, by kernel_rfl⟩
theorem ev_wide : Wide Tryz.prog 38 10 := ⟨⟨_, Tryz.underlying38, rfl⟩, by kernel_rfl⟩
theorem ln_one (l : Ln) : ∀ v ∈ (lncells l).toList, v.oneCell' = true := by
  intro v hv; simp [lncells] at hv; rcases hv with rfl | rfl | rfl | rfl <;> rfl
theorem lnCells_len (ls : List Ln) : (lnCells ls).length = ls.length * 4 := by
  induction ls with
  | nil => rfl
  | cons h r ih => simp only [lnCells, List.flatMap_cons, List.length_append] at ih ⊢; rw [ih]; simp [lncells]; omega
theorem lnCells_app (a b : List Ln) : lnCells (a ++ b) = lnCells a ++ lnCells b := by simp [lnCells]
theorem lnCells_one (ls : List Ln) : ∀ v ∈ lnCells ls, v.oneCell' = true := by
  intro v hv
  obtain ⟨l, _, hl⟩ := List.mem_flatMap.1 hv
  exact ln_one l v hl
theorem lnCells_at (ls : List Ln) (k j : Nat) (l : Ln) (hk : ls[k]? = some l) (hj : j < 4) : (lnCells ls)[k * 4 + j]? = (lncells l).toList[j]? := by
  induction ls generalizing k with
  | nil => simp at hk
  | cons g r ih =>
    have e : lnCells (g :: r) = (lncells g).toList ++ lnCells r := by simp [lnCells]
    rw [e]
    cases k with
    | zero =>
      simp at hk
      subst hk
      rw [List.getElem?_append_left (by simp [lncells]; omega)]
      simp
    | succ k =>
      rw [List.getElem?_append_right (by simp [lncells]; omega)]
      have : (k + 1) * 4 + j - (lncells g).toList.length = k * 4 + j := by simp [lncells]; omega
      rw [this]
      exact ih k (by simpa using hk)
theorem LsRd.ext {w w' : World} {A : Option Addr} {ls : List Ln} (h : LsRd w A ls) (hx : Ext w w') : LsRd w' A ls := RdN.ext h hx
theorem ls_at {w : World} {A : Option Addr} {k : Nat} {ls : List Ln} (h : LsRd w A ls) (hk : k < ls.length) :
    ∃ b o, A = some ⟨b, o, none⟩ ∧ w.rangeAt b (o + k * 4) (lncells ls[k]).toList := by
  obtain ⟨b, o, e, hc⟩ := h.2 (by omega)
  have hg : ls[k]? = some ls[k] := List.getElem?_eq_getElem hk
  refine ⟨b, o, e, fun j v hv => ?_⟩
  have hj : j < 4 := by
    have := (List.getElem?_eq_some_iff.1 hv).1
    simpa [lncells] using this
  rw [Nat.add_assoc]
  exact hc _ _ (by rw [lnCells_at ls k j _ hg hj]; exact hv)
section
variable {w : World}
theorem wpL_load_ln {ops : Array Oper} {rest : List Oper} {op : Oper} {a : Act} {Q : Exit → Act → World → Prop} (hgd : op.guard = none) (x : Operand) (ho : op.op = .load 44 x)
    (b o : Nat) (hx : a.eval x = .pointer (some ⟨b, o, none⟩)) (cs : Array Value) (hc : w.rangeAt b o cs.toList) (hsz : cs.size = 4)
    (h : wpList Tryz.prog ops Q rest (a.put op.dst (.agg cs)) w) : wpList Tryz.prog ops Q (op :: rest) a w := by
  obtain ⟨⟨d, hu, hd⟩, hi⟩ := ln_wide
  exact wpList_load_mid hgd 44 x ho b o hx cs.toList d hc hu (by revert hd; cases d <;> simp [TypeDesc.isRow]) (by rw [Array.length_toList, hsz]; exact hi) h
end
theorem net_snoc (a : List Ln) (l : Ln) : net (a ++ [l]) = net a + l.qty * l.price := by simp [net, List.sum_append]
theorem net_take {ls : List Ln} {k : Nat} (hk : k < ls.length) : net (ls.take (k + 1)) = net (ls.take k) + ls[k].qty * ls[k].price := by
  rw [List.take_succ_eq_append_getElem hk, net_snoc]
def NetR (W : World) (ls : List Ln) (c3 c9 : Value) (wr : World) : Prop :=
  ∃ k : Nat, c3 = .int .i64 (net (ls.take k)) ∧ c9 = .int .i64 (k : Nat) ∧ k ≤ ls.length ∧ Ext W wr
theorem alloc_ln (w : World) : (Instr.alloc 44 true (.tuple #[])).run Tryz.prog w = .ok (.pointer (some ⟨w.heap.size, 0, none⟩)) (w.alloc (.cells (lncells ⟨0, 0, 0, 0⟩) 44)) := by kernel_rfl
theorem prod_ok {l : Ln} (h : lnB l = true) : 0 ≤ l.qty * l.price ∧ l.qty * l.price ≤ 10000000000000 := by
  obtain ⟨_, ⟨p1, p2⟩, ⟨q1, q2⟩, _⟩ := lnB_iff.1 h
  exact ⟨Int.mul_nonneg (by omega) p1, Int.mul_le_mul q2 p2 p1 (by omega)⟩
set_option maxRecDepth 100000 in
set_option maxHeartbeats 2000000 in
theorem net_any (s : St) (A : Option Addr) (c : Nat) (w : World) (hr : LsRd w A s.lines) (hl : ∀ l ∈ s.lines, lnB l = true) (hn : s.lines.length ≤ 16) :
    Calls Tryz.prog 17 #[.agg (stcells s A c)] w fun e w' => e = .returned (.int .i64 (net s.lines)) ∧ Ext w w' := by
  obtain ⟨n, hnn⟩ : ∃ n, n = s.lines.length := ⟨_, rfl⟩
  unfold stcells
  rw [← hnn] at hn ⊢
  have HN := Lib.hid hnn
  clear hnn
  go_enter Tryz.func17, Tryz.ntmps17
  go_wp2_with fail
  go_loopw [3, 9] (fun c3 c9 wr => NetR w s.lines c3 c9 wr) (fun _ c9 _ => n - (intOf c9).toNat)
  case atStart => exact ⟨0, by simp [net], rfl, by omega, (by repeat (first | with_reducible exact Below.refl _ _ | with_reducible assumption | with_reducible refine ExtD ?_ | with_reducible refine ExtDN ?_ | with_reducible refine ExtA ?_ | (with_reducible refine ExtR ?_ ?_; (first | omega | (dsimp only; omega) | (simp; done) | (simp; omega))) | (with_reducible refine ExtS ?_ ?_; (first | omega | (dsimp only; omega) | (simp; done) | (simp; omega))) | with_reducible refine Ext.tr ?_ (by with_reducible assumption)))⟩
  case round =>
    obtain ⟨k, rfl, rfl, hk, hx⟩ := hrel
    rw [← HN.out] at hk
    by_cases hlt : k < n
    · obtain ⟨b, o, rfl, hc⟩ := ls_at hr (show k < s.lines.length by rw [← HN.out]; exact hlt)
      have Hc := Lib.hid (range_ext hc hx)
      have hal := alloc_ln
      have hp := prod_ok (hl _ (List.getElem_mem (show k < s.lines.length by rw [← HN.out]; exact hlt)))
      have hb := net_bound (ls := s.lines.take k) fun l h => hl l (List.mem_of_mem_take h)
      have hb2 : (s.lines.take k).length ≤ 16 := by simp; omega
      have Hs := Lib.hid (net_take (ls := s.lines) (k := k) (show k < s.lines.length by rw [← HN.out]; exact hlt))
      clear hc
      generalize s.lines[k]'(by rw [← HN.out]; exact hlt) = l at *
      generalize net (s.lines.take k) = m at *
      obtain ⟨li, lp, lq, lsh⟩ := l
      dsimp only at hp
      unfold lncells at Hc hal
      dsimp only at Hc hal
      have e0 : wr.cell? ⟨b, o + k * 4, none⟩ = some (.int .i64 li) := Hc.out 0 _ rfl
      have e1 : wr.cell? ⟨b, o + k * 4 + 1, none⟩ = some (.int .i64 lp) := Hc.out 1 _ rfl
      have e2 : wr.cell? ⟨b, o + k * 4 + 2, none⟩ = some (.int .i64 lq) := Hc.out 2 _ rfl
      have e3 : wr.cell? ⟨b, o + k * 4 + 3, none⟩ = some (.int .i64 lsh) := Hc.out 3 _ rfl
      go_wp2_with fail
      go_roundw
      case rel => exact ⟨k + 1, by rw [Hs.out], by go_num, by have := HN.out; omega, (by repeat (first | with_reducible exact Below.refl _ _ | with_reducible assumption | with_reducible refine ExtD ?_ | with_reducible refine ExtDN ?_ | with_reducible refine ExtA ?_ | (with_reducible refine ExtR ?_ ?_; (first | omega | (dsimp only; omega) | (simp; done) | (simp; omega))) | (with_reducible refine ExtS ?_ ?_; (first | omega | (dsimp only; omega) | (simp; done) | (simp; omega))) | with_reducible refine Ext.tr ?_ (by with_reducible assumption)))⟩
      case measure => simp [intOf]; omega
    · obtain rfl : k = n := by omega
      have htk : s.lines.take k = s.lines := List.take_of_length_le (by have := HN.out; omega)
      rw [htk]
      go_wp2_with fail
      go_ret
      exact ⟨rfl, (by repeat (first | with_reducible exact Below.refl _ _ | with_reducible assumption | with_reducible refine ExtD ?_ | with_reducible refine ExtDN ?_ | with_reducible refine ExtA ?_ | (with_reducible refine ExtR ?_ ?_; (first | omega | (dsimp only; omega) | (simp; done) | (simp; omega))) | (with_reducible refine ExtS ?_ ?_; (first | omega | (dsimp only; omega) | (simp; done) | (simp; omega))) | with_reducible refine Ext.tr ?_ (by with_reducible assumption)))⟩
end Go.Proofs.YtjomgppbialeoaaGreat

namespace Go.Proofs.YtjomgppbialeoaaGreat
open Go.RowKit
set_option linter.unusedVariables false
set_option linter.unusedSimpArgs false
theorem md_tax {n t : Int} (h0 : 0 ≤ n) (h1 : n ≤ 160000000000000) (t0 : 0 ≤ t) (t1 : t ≤ 5000) : mdV n t 10000 = taxOf n t := by
  have hq : mdQ n t 10000 = taxOf n t := by
    unfold mdQ taxOf
    have e1 : decide (n < 0) = false := by simp; omega
    have e2 : decide (t < 0) = false := by simp; omega
    have e3 : decide ((10000 : Int) < 0) = false := by decide
    rw [e1, e2, e3]
    obtain ⟨a, rfl⟩ := Int.eq_ofNat_of_zero_le h0
    obtain ⟨b, rfl⟩ := Int.eq_ofNat_of_zero_le t0
    simp [sg, absN]
  have hb := tax_bound h0 t0 t1
  unfold mdV mdF
  rw [hq, if_neg (show ¬ (10000 : Int) = 0 by omega)]
  rw [if_pos (by unfold fits64; simp; omega)]
theorem lines_net {s : St} (hl : ∀ l ∈ s.lines, lnB l = true) (hn : s.lines.length ≤ 16) : 0 ≤ net s.lines ∧ net s.lines ≤ 160000000000000 := by
  have := net_bound hl
  omega
set_option maxRecDepth 100000 in
set_option maxHeartbeats 2000000 in
theorem due_any (s : St) (A : Option Addr) (c : Nat) (w : World) (hr : LsRd w A s.lines) (hl : ∀ l ∈ s.lines, lnB l = true) (hn : s.lines.length ≤ 16) (ht : 0 ≤ s.tax ∧ s.tax ≤ 5000) :
    Calls Tryz.prog 19 #[.agg (stcells s A c)] w fun e w' => e = .returned (.int .i64 (due s)) ∧ Ext w w' := by
  have hb := lines_net hl hn
  have htx := tax_bound hb.1 ht.1 ht.2
  have Hd : Hid (due s = net s.lines + taxOf (net s.lines) s.tax) := Lib.hid rfl
  have Kn : Hid (∀ w', Ext w w' → Calls Tryz.prog 17 #[.agg (stcells s A c)] w' fun e w2 => e = .returned (.int .i64 (net s.lines)) ∧ Ext w' w2) := Lib.hid fun w' hx => net_any s A c w' (hr.ext hx) hl hn
  have Km : Hid (∀ w', Calls Tryz.prog 42 #[.int .i64 (net s.lines), .int .i64 s.tax, .int .i64 10000] w' fun e w2 => e = .returned (.tuple #[.int .i64 (taxOf (net s.lines) s.tax), .bool (mdF (net s.lines) s.tax 10000)]) ∧ Ext w' w2) := Lib.hid fun w' => by
    have h := muldiv_any (net s.lines) s.tax 10000 w' (by omega) (by omega) (by omega) (by omega) (by omega) (by omega)
    rw [md_tax hb.1 hb.2 ht.1 ht.2] at h
    exact h
  obtain ⟨X, hX⟩ : ∃ X, X = taxOf (net s.lines) s.tax := ⟨_, rfl⟩
  obtain ⟨N, hN⟩ : ∃ N, N = net s.lines := ⟨_, rfl⟩
  obtain ⟨F, hF⟩ : ∃ F, F = mdF (net s.lines) s.tax 10000 := ⟨_, rfl⟩
  rw [← hX] at Hd Km htx
  rw [← hF] at Km
  rw [← hN] at Hd Km Kn hb htx
  clear hX hN hF
  unfold stcells at Kn ⊢
  go_enter Tryz.func19, Tryz.ntmps19
  go_wp2_with (first
    | (go_at_call 17; go_must (with_reducible refine (Kn.out _ (ExtA (Ext.rfl' w))).mono ?_); rintro e w1 ⟨rfl, hx1⟩; have e4 : w1.cell? ⟨w.heap.size, 4, none⟩ = some (.int .i64 s.tax) := (Ext.blk hx1 (BlkN rfl)).cell 4)
    | (go_at_call 42; go_must (with_reducible refine (Km.out _).mono ?_); rintro e w2 ⟨rfl, hx2⟩))
  go_ret
  exact ⟨by rw [Hd.out]; go_num, (by repeat (first | with_reducible exact Below.refl _ _ | with_reducible assumption | with_reducible refine ExtD ?_ | with_reducible refine ExtDN ?_ | with_reducible refine ExtA ?_ | (with_reducible refine ExtR ?_ ?_; (first | omega | (dsimp only; omega) | (simp; done) | (simp; omega))) | (with_reducible refine ExtS ?_ ?_; (first | omega | (dsimp only; omega) | (simp; done) | (simp; omega))) | with_reducible refine Ext.tr ?_ (by with_reducible assumption)))⟩
theorem within_any (x lo hi : Int) (w : World) : Calls Tryz.prog 56 #[.int .i64 x, .int .i64 lo, .int .i64 hi] w fun e w' => e = .returned (.bool (wi x lo hi)) ∧ Ext w w' := by
  have Hv : Hid (wi x lo hi = decide (lo ≤ x ∧ x ≤ hi)) := Lib.hid rfl
  by_cases h1 : lo ≤ x
  · go_enter Tryz.func56, Tryz.ntmps56
    go_wp2_with fail
    go_ret
    exact ⟨by rw [Hv.out]; simp [h1], (by repeat (first | with_reducible exact Below.refl _ _ | with_reducible assumption | with_reducible refine ExtD ?_ | with_reducible refine ExtDN ?_ | with_reducible refine ExtA ?_ | (with_reducible refine ExtR ?_ ?_; (first | omega | (dsimp only; omega) | (simp; done) | (simp; omega))) | (with_reducible refine ExtS ?_ ?_; (first | omega | (dsimp only; omega) | (simp; done) | (simp; omega))) | with_reducible refine Ext.tr ?_ (by with_reducible assumption)))⟩
  · go_enter Tryz.func56, Tryz.ntmps56
    go_wp2_with fail
    go_ret
    exact ⟨by rw [Hv.out]; simp; omega, (by repeat (first | with_reducible exact Below.refl _ _ | with_reducible assumption | with_reducible refine ExtD ?_ | with_reducible refine ExtDN ?_ | with_reducible refine ExtA ?_ | (with_reducible refine ExtR ?_ ?_; (first | omega | (dsimp only; omega) | (simp; done) | (simp; omega))) | (with_reducible refine ExtS ?_ ?_; (first | omega | (dsimp only; omega) | (simp; done) | (simp; omega))) | with_reducible refine Ext.tr ?_ (by with_reducible assumption)))⟩
def ShR (W : World) (ls : List Ln) (c2 c3 c9 : Value) (wr : World) : Prop :=
  ∃ (k : Nat) (a b : Bool), c2 = .bool a ∧ c3 = .bool b ∧ c9 = .int .i64 (k : Nat) ∧ k ≤ ls.length ∧ a = noneB (ls.take k) ∧ b = allB (ls.take k) ∧ Ext W wr
theorem noneB_take {ls : List Ln} {k : Nat} (hk : k < ls.length) : noneB (ls.take (k + 1)) = (noneB (ls.take k) && decide (ls[k].shipped = 0)) := by
  rw [List.take_succ_eq_append_getElem hk]; simp only [noneB, List.all_append, List.all_cons, List.all_nil, Bool.and_true]
theorem allB_take {ls : List Ln} {k : Nat} (hk : k < ls.length) : allB (ls.take (k + 1)) = (allB (ls.take k) && decide (ls[k].shipped = ls[k].qty)) := by
  rw [List.take_succ_eq_append_getElem hk]; simp only [allB, List.all_append, List.all_cons, List.all_nil, Bool.and_true]
set_option maxRecDepth 100000 in
set_option maxHeartbeats 2000000 in
theorem shipped_any (s : St) (A : Option Addr) (c : Nat) (w : World) (hr : LsRd w A s.lines) (hn : s.lines.length ≤ 4611686018427387904) :
    Calls Tryz.prog 24 #[.agg (stcells s A c)] w fun e w' => e = .returned (.tuple #[.bool (noneB s.lines), .bool (allB s.lines)]) ∧ Ext w w' := by
  obtain ⟨n, hnn⟩ : ∃ n, n = s.lines.length := ⟨_, rfl⟩
  unfold stcells
  rw [← hnn] at hn ⊢
  have HN := Lib.hid hnn
  clear hnn
  go_enter Tryz.func24, Tryz.ntmps24
  go_wp2_with fail
  go_loopw [2, 3, 9] (fun c2 c3 c9 wr => ShR w s.lines c2 c3 c9 wr) (fun _ _ c9 _ => n - (intOf c9).toNat)
  case atStart => exact ⟨0, true, true, rfl, rfl, rfl, by omega, rfl, rfl, (by repeat (first | with_reducible exact Below.refl _ _ | with_reducible assumption | with_reducible refine ExtD ?_ | with_reducible refine ExtDN ?_ | with_reducible refine ExtA ?_ | (with_reducible refine ExtR ?_ ?_; (first | omega | (dsimp only; omega) | (simp; done) | (simp; omega))) | (with_reducible refine ExtS ?_ ?_; (first | omega | (dsimp only; omega) | (simp; done) | (simp; omega))) | with_reducible refine Ext.tr ?_ (by with_reducible assumption)))⟩
  case round =>
    obtain ⟨k, a, bb, rfl, rfl, rfl, hk, ha, hb, hx⟩ := hrel
    rw [← HN.out] at hk
    have Ha := Lib.hid ha
    have Hb := Lib.hid hb
    clear ha hb
    by_cases hlt : k < n
    · obtain ⟨b, o, rfl, hc⟩ := ls_at hr (show k < s.lines.length by rw [← HN.out]; exact hlt)
      have Hc := Lib.hid (range_ext hc hx)
      have hal := alloc_ln
      have Hs1 := Lib.hid (noneB_take (ls := s.lines) (k := k) (show k < s.lines.length by rw [← HN.out]; exact hlt))
      have Hs2 := Lib.hid (allB_take (ls := s.lines) (k := k) (show k < s.lines.length by rw [← HN.out]; exact hlt))
      clear hc
      generalize s.lines[k]'(by rw [← HN.out]; exact hlt) = l at *
      obtain ⟨li, lp, lq, lsh⟩ := l
      unfold lncells at Hc hal
      dsimp only at Hc hal
      have e0 : wr.cell? ⟨b, o + k * 4, none⟩ = some (.int .i64 li) := Hc.out 0 _ rfl
      have e1 : wr.cell? ⟨b, o + k * 4 + 1, none⟩ = some (.int .i64 lp) := Hc.out 1 _ rfl
      have e2 : wr.cell? ⟨b, o + k * 4 + 2, none⟩ = some (.int .i64 lq) := Hc.out 2 _ rfl
      have e3 : wr.cell? ⟨b, o + k * 4 + 3, none⟩ = some (.int .i64 lsh) := Hc.out 3 _ rfl
      cases a <;> cases bb
      all_goals
        go_wp2_with fail
        refine And.intro ?_ ?_
        exact ⟨k + 1, _, _, rfl, rfl, by go_num, by have := HN.out; omega, by rw [Hs1.out, ← Ha.out]; simp [Bool.beq_eq_decide_eq], by rw [Hs2.out, ← Hb.out]; simp [Bool.beq_eq_decide_eq], (by repeat (first | with_reducible exact Below.refl _ _ | with_reducible assumption | with_reducible refine ExtD ?_ | with_reducible refine ExtDN ?_ | with_reducible refine ExtA ?_ | (with_reducible refine ExtR ?_ ?_; (first | omega | (dsimp only; omega) | (simp; done) | (simp; omega))) | (with_reducible refine ExtS ?_ ?_; (first | omega | (dsimp only; omega) | (simp; done) | (simp; omega))) | with_reducible refine Ext.tr ?_ (by with_reducible assumption)))⟩
        simp [intOf]; omega
    · obtain rfl : k = n := by omega
      have htk : s.lines.take k = s.lines := List.take_of_length_le (by have := HN.out; omega)
      rw [htk] at Ha Hb
      go_wp2_with fail
      go_ret2
      exact ⟨by rw [Ha.out, Hb.out]; rfl, (by repeat (first | with_reducible exact Below.refl _ _ | with_reducible assumption | with_reducible refine ExtD ?_ | with_reducible refine ExtDN ?_ | with_reducible refine ExtA ?_ | (with_reducible refine ExtR ?_ ?_; (first | omega | (dsimp only; omega) | (simp; done) | (simp; omega))) | (with_reducible refine ExtS ?_ ?_; (first | omega | (dsimp only; omega) | (simp; done) | (simp; omega))) | with_reducible refine Ext.tr ?_ (by with_reducible assumption)))⟩
end Go.Proofs.YtjomgppbialeoaaGreat

namespace Go.Proofs.YtjomgppbialeoaaGreat
open Go.RowKit
set_option linter.unusedVariables false
set_option linter.unusedSimpArgs false
def lastOr (b : Int) (a : List Ln) : Int := (a.getLast?.map (·.item)).getD b
theorem rises_snoc (b : Int) (a : List Ln) (l : Ln) : risesB b (a ++ [l]) = (risesB b a && decide (lastOr b a < l.item) && lnB l) := by
  induction a generalizing b with
  | nil =>
    show (decide (b < l.item) && lnB l && true) = (true && decide (b < l.item) && lnB l)
    rw [Bool.and_true, Bool.true_and]
  | cons x r ih =>
    have e : lastOr b (x :: r) = lastOr x.item r := by
      unfold lastOr
      rw [List.getLast?_cons]
      cases r.getLast? <;> simp
    simp only [List.cons_append, risesB, ih, e, Bool.and_assoc]
theorem rises_pre {b : Int} {a r : List Ln} (h : risesB b (a ++ r) = true) : risesB b a = true := by
  induction a generalizing b with
  | nil => rfl
  | cons x t ih =>
    obtain ⟨h1, h2, h3⟩ := rises_cons.1 h
    exact rises_cons.2 ⟨h1, h2, ih h3⟩
theorem lined_bad {ls : List Ln} {k : Nat} (h : risesB (-1) (ls.take k) = false) : linedB ls = false := by
  unfold linedB
  cases hr : risesB (-1) ls with
  | false => simp
  | true =>
    rw [← List.take_append_drop k ls] at hr
    rw [rises_pre hr] at h
    cases h
def LinedR (W : World) (ls : List Ln) (c10 : Value) (wr : World) : Prop :=
  ∃ k : Nat, c10 = .int .i64 (k : Nat) ∧ k ≤ ls.length ∧ risesB (-1) (ls.take k) = true ∧ Ext W wr
theorem rises_take {ls : List Ln} {k : Nat} (hk : k < ls.length) : risesB (-1) (ls.take (k + 1)) = (risesB (-1) (ls.take k) && decide (lastOr (-1) (ls.take k) < ls[k].item) && lnB ls[k]) := by
  rw [List.take_succ_eq_append_getElem hk, rises_snoc]
theorem last_take {ls : List Ln} {j : Nat} (hj : j < ls.length) : lastOr (-1) (ls.take (j + 1)) = ls[j].item := by
  unfold lastOr
  rw [List.take_succ_eq_append_getElem hj, List.getLast?_append]
  simp
set_option maxRecDepth 100000 in
set_option maxHeartbeats 2000000 in
theorem lined_any (ls : List Ln) (A : Option Addr) (c : Nat) (w : World) (hr : LsRd w A ls) (hn : ls.length ≤ 4611686018427387904) :
    Calls Tryz.prog 57 #[.slice A ls.length c] w fun e w' => e = .returned (.bool (linedB ls)) ∧ Ext w w' := by
  obtain ⟨n, hnn⟩ : ∃ n, n = ls.length := ⟨_, rfl⟩
  rw [← hnn] at hn ⊢
  have HN := Lib.hid hnn
  clear hnn
  by_cases h16 : 16 < n
  · have Hv : Hid (linedB ls = false) := Lib.hid (by unfold linedB; rw [← HN.out]; simp; omega)
    go_enter Tryz.func57, Tryz.ntmps57
    go_wp2_with fail
    go_ret
    exact ⟨by rw [Hv.out]; rfl, (by repeat (first | with_reducible exact Below.refl _ _ | with_reducible assumption | with_reducible refine ExtD ?_ | with_reducible refine ExtDN ?_ | with_reducible refine ExtA ?_ | (with_reducible refine ExtR ?_ ?_; (first | omega | (dsimp only; omega) | (simp; done) | (simp; omega))) | (with_reducible refine ExtS ?_ ?_; (first | omega | (dsimp only; omega) | (simp; done) | (simp; omega))) | with_reducible refine Ext.tr ?_ (by with_reducible assumption)))⟩
  have Hv : Hid (linedB ls = risesB (-1) ls) := Lib.hid (by unfold linedB; rw [← HN.out]; simp; omega)
  go_enter Tryz.func57, Tryz.ntmps57
  go_wp2_with fail
  go_loopw [10] (fun c10 wr => LinedR w ls c10 wr) (fun c10 _ => n - (intOf c10).toNat)
  case atStart => exact ⟨0, rfl, by omega, rfl, (by repeat (first | with_reducible exact Below.refl _ _ | with_reducible assumption | with_reducible refine ExtD ?_ | with_reducible refine ExtDN ?_ | with_reducible refine ExtA ?_ | (with_reducible refine ExtR ?_ ?_; (first | omega | (dsimp only; omega) | (simp; done) | (simp; omega))) | (with_reducible refine ExtS ?_ ?_; (first | omega | (dsimp only; omega) | (simp; done) | (simp; omega))) | with_reducible refine Ext.tr ?_ (by with_reducible assumption)))⟩
  case round =>
    obtain ⟨k, rfl, hk, hrs, hx⟩ := hrel
    rw [← HN.out] at hk
    have Hrs := Lib.hid hrs
    clear hrs
    by_cases hlt : k < n
    · obtain ⟨b, o, rfl, hc⟩ := ls_at hr (show k < ls.length by rw [← HN.out]; exact hlt)
      have Hc := Lib.hid (range_ext hc hx)
      have hal := alloc_ln
      have Hs1 := Lib.hid (rises_take (ls := ls) (k := k) (show k < ls.length by rw [← HN.out]; exact hlt))
      rw [Hrs.out, Bool.true_and] at Hs1
      clear hc
      generalize ls[k]'(by rw [← HN.out]; exact hlt) = l at *
      obtain ⟨li, lp, lq, lsh⟩ := l
      unfold lncells at Hc hal
      dsimp only at Hc hal
      have e0 : wr.cell? ⟨b, o + k * 4, none⟩ = some (.int .i64 li) := Hc.out 0 _ rfl
      have e1 : wr.cell? ⟨b, o + k * 4 + 1, none⟩ = some (.int .i64 lp) := Hc.out 1 _ rfl
      have e2 : wr.cell? ⟨b, o + k * 4 + 2, none⟩ = some (.int .i64 lq) := Hc.out 2 _ rfl
      have e3 : wr.cell? ⟨b, o + k * 4 + 3, none⟩ = some (.int .i64 lsh) := Hc.out 3 _ rfl
      obtain ⟨B1, hB1⟩ : ∃ b, b = wi li 0 65535 := ⟨_, rfl⟩
      obtain ⟨B2, hB2⟩ : ∃ b, b = wi lp 0 100000000 := ⟨_, rfl⟩
      obtain ⟨B3, hB3⟩ : ∃ b, b = wi lq 1 100000 := ⟨_, rfl⟩
      obtain ⟨B4, hB4⟩ : ∃ b, b = wi lsh 0 lq := ⟨_, rfl⟩
      have K1 := Lib.hid fun W => within_any li 0 65535 W
      have K2 := Lib.hid fun W => within_any lp 0 100000000 W
      have K3 := Lib.hid fun W => within_any lq 1 100000 W
      have K4 := Lib.hid fun W => within_any lsh 0 lq W
      have HL : Hid (lnB ⟨li, lp, lq, lsh⟩ = (B1 && B2 && B3 && B4)) := Lib.hid (by rw [hB1, hB2, hB3, hB4]; rfl)
      rw [← hB1] at K1
      rw [← hB2] at K2
      rw [← hB3] at K3
      rw [← hB4] at K4
      have HB1 := Lib.hid hB1
      clear hB1 hB2 hB3 hB4
      by_cases h0 : k = 0
      · have hz : decide ((0 : Int) < (k : Int)) = false := by simp; omega
        have tz : decide (0 < k) = false := by simp; omega
        have Hs2 : Hid (risesB (-1) (ls.take (k + 1)) = (decide (-1 < li) && lnB ⟨li, lp, lq, lsh⟩)) := Lib.hid (by rw [Hs1.out, h0]; rfl)
        have H0 := Lib.hid h0
        clear h0
        go_wp2_with fail
        go_quiet (fail)
        cases B1 with
        | false =>
          go_wp2_with (first
  | (go_at_call 56; (with_reducible refine (K1.out _).mono ?_); rintro e w1 ⟨rfl, hx1⟩; have b1 : Blk w1 wr.heap.size 44 #[.int .i64 li, .int .i64 lp, .int .i64 lq, .int .i64 lsh] := Ext.blk hx1 (BlkDN (BlkN rfl)); have d1 : w1.cell? ⟨wr.heap.size, 1, none⟩ = some (.int .i64 lp) := b1.cell 1)
  | (go_at_call 56; (with_reducible refine (K2.out _).mono ?_); rintro e w2 ⟨rfl, hx2⟩; have b2 := Ext.blk hx2 b1; have d2 : w2.cell? ⟨wr.heap.size, 2, none⟩ = some (.int .i64 lq) := b2.cell 2)
  | (go_at_call 56; (with_reducible refine (K3.out _).mono ?_); rintro e w3 ⟨rfl, hx3⟩; have b3 := Ext.blk hx3 b2; have d3 : w3.cell? ⟨wr.heap.size, 3, none⟩ = some (.int .i64 lsh) := b3.cell 3; have d32 : w3.cell? ⟨wr.heap.size, 2, none⟩ = some (.int .i64 lq) := b3.cell 2)
  | (go_at_call 56; (with_reducible refine (K4.out _).mono ?_); rintro e w4 ⟨rfl, hx4⟩))
          go_ret
          exact ⟨by rw [lined_bad (k := k + 1) (by rw [Hs2.out, HL.out]; simp)]; rfl, (by repeat (first | with_reducible exact Below.refl _ _ | with_reducible assumption | with_reducible refine ExtD ?_ | with_reducible refine ExtDN ?_ | with_reducible refine ExtA ?_ | (with_reducible refine ExtR ?_ ?_; (first | omega | (dsimp only; omega) | (simp; done) | (simp; omega))) | (with_reducible refine ExtS ?_ ?_; (first | omega | (dsimp only; omega) | (simp; done) | (simp; omega))) | with_reducible refine Ext.tr ?_ (by with_reducible assumption)))⟩
        | true =>
          cases B2 with
          | false =>
            go_wp2_with (first
  | (go_at_call 56; (with_reducible refine (K1.out _).mono ?_); rintro e w1 ⟨rfl, hx1⟩; have b1 : Blk w1 wr.heap.size 44 #[.int .i64 li, .int .i64 lp, .int .i64 lq, .int .i64 lsh] := Ext.blk hx1 (BlkDN (BlkN rfl)); have d1 : w1.cell? ⟨wr.heap.size, 1, none⟩ = some (.int .i64 lp) := b1.cell 1)
  | (go_at_call 56; (with_reducible refine (K2.out _).mono ?_); rintro e w2 ⟨rfl, hx2⟩; have b2 := Ext.blk hx2 b1; have d2 : w2.cell? ⟨wr.heap.size, 2, none⟩ = some (.int .i64 lq) := b2.cell 2)
  | (go_at_call 56; (with_reducible refine (K3.out _).mono ?_); rintro e w3 ⟨rfl, hx3⟩; have b3 := Ext.blk hx3 b2; have d3 : w3.cell? ⟨wr.heap.size, 3, none⟩ = some (.int .i64 lsh) := b3.cell 3; have d32 : w3.cell? ⟨wr.heap.size, 2, none⟩ = some (.int .i64 lq) := b3.cell 2)
  | (go_at_call 56; (with_reducible refine (K4.out _).mono ?_); rintro e w4 ⟨rfl, hx4⟩))
            go_ret
            exact ⟨by rw [lined_bad (k := k + 1) (by rw [Hs2.out, HL.out]; simp)]; rfl, (by repeat (first | with_reducible exact Below.refl _ _ | with_reducible assumption | with_reducible refine ExtD ?_ | with_reducible refine ExtDN ?_ | with_reducible refine ExtA ?_ | (with_reducible refine ExtR ?_ ?_; (first | omega | (dsimp only; omega) | (simp; done) | (simp; omega))) | (with_reducible refine ExtS ?_ ?_; (first | omega | (dsimp only; omega) | (simp; done) | (simp; omega))) | with_reducible refine Ext.tr ?_ (by with_reducible assumption)))⟩
          | true =>
            cases B3 with
            | false =>
              go_wp2_with (first
  | (go_at_call 56; (with_reducible refine (K1.out _).mono ?_); rintro e w1 ⟨rfl, hx1⟩; have b1 : Blk w1 wr.heap.size 44 #[.int .i64 li, .int .i64 lp, .int .i64 lq, .int .i64 lsh] := Ext.blk hx1 (BlkDN (BlkN rfl)); have d1 : w1.cell? ⟨wr.heap.size, 1, none⟩ = some (.int .i64 lp) := b1.cell 1)
  | (go_at_call 56; (with_reducible refine (K2.out _).mono ?_); rintro e w2 ⟨rfl, hx2⟩; have b2 := Ext.blk hx2 b1; have d2 : w2.cell? ⟨wr.heap.size, 2, none⟩ = some (.int .i64 lq) := b2.cell 2)
  | (go_at_call 56; (with_reducible refine (K3.out _).mono ?_); rintro e w3 ⟨rfl, hx3⟩; have b3 := Ext.blk hx3 b2; have d3 : w3.cell? ⟨wr.heap.size, 3, none⟩ = some (.int .i64 lsh) := b3.cell 3; have d32 : w3.cell? ⟨wr.heap.size, 2, none⟩ = some (.int .i64 lq) := b3.cell 2)
  | (go_at_call 56; (with_reducible refine (K4.out _).mono ?_); rintro e w4 ⟨rfl, hx4⟩))
              go_ret
              exact ⟨by rw [lined_bad (k := k + 1) (by rw [Hs2.out, HL.out]; simp)]; rfl, (by repeat (first | with_reducible exact Below.refl _ _ | with_reducible assumption | with_reducible refine ExtD ?_ | with_reducible refine ExtDN ?_ | with_reducible refine ExtA ?_ | (with_reducible refine ExtR ?_ ?_; (first | omega | (dsimp only; omega) | (simp; done) | (simp; omega))) | (with_reducible refine ExtS ?_ ?_; (first | omega | (dsimp only; omega) | (simp; done) | (simp; omega))) | with_reducible refine Ext.tr ?_ (by with_reducible assumption)))⟩
            | true =>
              cases B4 with
              | false =>
                go_wp2_with (first
  | (go_at_call 56; (with_reducible refine (K1.out _).mono ?_); rintro e w1 ⟨rfl, hx1⟩; have b1 : Blk w1 wr.heap.size 44 #[.int .i64 li, .int .i64 lp, .int .i64 lq, .int .i64 lsh] := Ext.blk hx1 (BlkDN (BlkN rfl)); have d1 : w1.cell? ⟨wr.heap.size, 1, none⟩ = some (.int .i64 lp) := b1.cell 1)
  | (go_at_call 56; (with_reducible refine (K2.out _).mono ?_); rintro e w2 ⟨rfl, hx2⟩; have b2 := Ext.blk hx2 b1; have d2 : w2.cell? ⟨wr.heap.size, 2, none⟩ = some (.int .i64 lq) := b2.cell 2)
  | (go_at_call 56; (with_reducible refine (K3.out _).mono ?_); rintro e w3 ⟨rfl, hx3⟩; have b3 := Ext.blk hx3 b2; have d3 : w3.cell? ⟨wr.heap.size, 3, none⟩ = some (.int .i64 lsh) := b3.cell 3; have d32 : w3.cell? ⟨wr.heap.size, 2, none⟩ = some (.int .i64 lq) := b3.cell 2)
  | (go_at_call 56; (with_reducible refine (K4.out _).mono ?_); rintro e w4 ⟨rfl, hx4⟩))
                go_ret
                exact ⟨by rw [lined_bad (k := k + 1) (by rw [Hs2.out, HL.out]; simp)]; rfl, (by repeat (first | with_reducible exact Below.refl _ _ | with_reducible assumption | with_reducible refine ExtD ?_ | with_reducible refine ExtDN ?_ | with_reducible refine ExtA ?_ | (with_reducible refine ExtR ?_ ?_; (first | omega | (dsimp only; omega) | (simp; done) | (simp; omega))) | (with_reducible refine ExtS ?_ ?_; (first | omega | (dsimp only; omega) | (simp; done) | (simp; omega))) | with_reducible refine Ext.tr ?_ (by with_reducible assumption)))⟩
              | true =>
                go_wp2_with (first
  | (go_at_call 56; (with_reducible refine (K1.out _).mono ?_); rintro e w1 ⟨rfl, hx1⟩; have b1 : Blk w1 wr.heap.size 44 #[.int .i64 li, .int .i64 lp, .int .i64 lq, .int .i64 lsh] := Ext.blk hx1 (BlkDN (BlkN rfl)); have d1 : w1.cell? ⟨wr.heap.size, 1, none⟩ = some (.int .i64 lp) := b1.cell 1)
  | (go_at_call 56; (with_reducible refine (K2.out _).mono ?_); rintro e w2 ⟨rfl, hx2⟩; have b2 := Ext.blk hx2 b1; have d2 : w2.cell? ⟨wr.heap.size, 2, none⟩ = some (.int .i64 lq) := b2.cell 2)
  | (go_at_call 56; (with_reducible refine (K3.out _).mono ?_); rintro e w3 ⟨rfl, hx3⟩; have b3 := Ext.blk hx3 b2; have d3 : w3.cell? ⟨wr.heap.size, 3, none⟩ = some (.int .i64 lsh) := b3.cell 3; have d32 : w3.cell? ⟨wr.heap.size, 2, none⟩ = some (.int .i64 lq) := b3.cell 2)
  | (go_at_call 56; (with_reducible refine (K4.out _).mono ?_); rintro e w4 ⟨rfl, hx4⟩))
                refine And.intro ?_ ?_
                exact ⟨k + 1, by go_num, by have := HN.out; omega, by rw [Hs2.out, HL.out]; first | (have := wi_iff.1 HB1.out.symm; simp; omega) | (have := Hp.out; simp; omega), (by repeat (first | with_reducible exact Below.refl _ _ | with_reducible assumption | with_reducible refine ExtD ?_ | with_reducible refine ExtDN ?_ | with_reducible refine ExtA ?_ | (with_reducible refine ExtR ?_ ?_; (first | omega | (dsimp only; omega) | (simp; done) | (simp; omega))) | (with_reducible refine ExtS ?_ ?_; (first | omega | (dsimp only; omega) | (simp; done) | (simp; omega))) | with_reducible refine Ext.tr ?_ (by with_reducible assumption)))⟩
                simp [intOf]; omega
      · obtain ⟨j, rfl⟩ : ∃ j, k = j + 1 := ⟨k - 1, by omega⟩
        obtain ⟨b', o', hA, hc'⟩ := ls_at hr (show j < ls.length by rw [← HN.out]; omega)
        cases hA
        have Hlast := Lib.hid (last_take (ls := ls) (j := j) (show j < ls.length by rw [← HN.out]; omega))
        have f0 := (range_ext hc' hx) 0 _ rfl
        dsimp only [Nat.add_zero] at f0
        generalize (ls[j]'(by rw [← HN.out]; omega)).item = pj at *
        have Hs2 : Hid (risesB (-1) (ls.take (j + 1 + 1)) = (decide (pj < li) && lnB ⟨li, lp, lq, lsh⟩)) := Lib.hid (by rw [Hs1.out, Hlast.out])
        clear hc' h0
        have f1 : ∀ ob, (wr.alloc ob).cell? ⟨b, o + j * 4, none⟩ = some (.int .i64 pj) := fun ob => Ext.cell (ExtA (Ext.rfl' wr)) f0
        have hjn : j < n := by omega
        have hwj : IntKind.i64.wrap (j : Int) = (j : Int) := by rw [IntKind.wrap_i64]; omega
        have hjn2 : (j : Int) < (n : Int) := by omega
        by_cases hp : li ≤ pj
        · have Hp := Lib.hid hp
          go_wp2_with fail
          go_quiet (fail)
          go_wp2_with fail
          go_ret
          exact ⟨by rw [lined_bad (k := j + 1 + 1) (by rw [Hs2.out]; have := Hp.out; simp; omega)]; rfl, (by repeat (first | with_reducible exact Below.refl _ _ | with_reducible assumption | with_reducible refine ExtD ?_ | with_reducible refine ExtDN ?_ | with_reducible refine ExtA ?_ | (with_reducible refine ExtR ?_ ?_; (first | omega | (dsimp only; omega) | (simp; done) | (simp; omega))) | (with_reducible refine ExtS ?_ ?_; (first | omega | (dsimp only; omega) | (simp; done) | (simp; omega))) | with_reducible refine Ext.tr ?_ (by with_reducible assumption)))⟩
        · have Hp := Lib.hid hp
          go_wp2_with fail
          go_quiet (fail)
          cases B1 with
          | false =>
            go_wp2_with (first
  | (go_at_call 56; (with_reducible refine (K1.out _).mono ?_); rintro e w1 ⟨rfl, hx1⟩; have b1 : Blk w1 wr.heap.size 44 #[.int .i64 li, .int .i64 lp, .int .i64 lq, .int .i64 lsh] := Ext.blk hx1 (BlkDN (BlkN rfl)); have d1 : w1.cell? ⟨wr.heap.size, 1, none⟩ = some (.int .i64 lp) := b1.cell 1)
  | (go_at_call 56; (with_reducible refine (K2.out _).mono ?_); rintro e w2 ⟨rfl, hx2⟩; have b2 := Ext.blk hx2 b1; have d2 : w2.cell? ⟨wr.heap.size, 2, none⟩ = some (.int .i64 lq) := b2.cell 2)
  | (go_at_call 56; (with_reducible refine (K3.out _).mono ?_); rintro e w3 ⟨rfl, hx3⟩; have b3 := Ext.blk hx3 b2; have d3 : w3.cell? ⟨wr.heap.size, 3, none⟩ = some (.int .i64 lsh) := b3.cell 3; have d32 : w3.cell? ⟨wr.heap.size, 2, none⟩ = some (.int .i64 lq) := b3.cell 2)
  | (go_at_call 56; (with_reducible refine (K4.out _).mono ?_); rintro e w4 ⟨rfl, hx4⟩))
            go_ret
            exact ⟨by rw [lined_bad (k := j + 1 + 1) (by rw [Hs2.out, HL.out]; simp)]; rfl, (by repeat (first | with_reducible exact Below.refl _ _ | with_reducible assumption | with_reducible refine ExtD ?_ | with_reducible refine ExtDN ?_ | with_reducible refine ExtA ?_ | (with_reducible refine ExtR ?_ ?_; (first | omega | (dsimp only; omega) | (simp; done) | (simp; omega))) | (with_reducible refine ExtS ?_ ?_; (first | omega | (dsimp only; omega) | (simp; done) | (simp; omega))) | with_reducible refine Ext.tr ?_ (by with_reducible assumption)))⟩
          | true =>
            cases B2 with
            | false =>
              go_wp2_with (first
  | (go_at_call 56; (with_reducible refine (K1.out _).mono ?_); rintro e w1 ⟨rfl, hx1⟩; have b1 : Blk w1 wr.heap.size 44 #[.int .i64 li, .int .i64 lp, .int .i64 lq, .int .i64 lsh] := Ext.blk hx1 (BlkDN (BlkN rfl)); have d1 : w1.cell? ⟨wr.heap.size, 1, none⟩ = some (.int .i64 lp) := b1.cell 1)
  | (go_at_call 56; (with_reducible refine (K2.out _).mono ?_); rintro e w2 ⟨rfl, hx2⟩; have b2 := Ext.blk hx2 b1; have d2 : w2.cell? ⟨wr.heap.size, 2, none⟩ = some (.int .i64 lq) := b2.cell 2)
  | (go_at_call 56; (with_reducible refine (K3.out _).mono ?_); rintro e w3 ⟨rfl, hx3⟩; have b3 := Ext.blk hx3 b2; have d3 : w3.cell? ⟨wr.heap.size, 3, none⟩ = some (.int .i64 lsh) := b3.cell 3; have d32 : w3.cell? ⟨wr.heap.size, 2, none⟩ = some (.int .i64 lq) := b3.cell 2)
  | (go_at_call 56; (with_reducible refine (K4.out _).mono ?_); rintro e w4 ⟨rfl, hx4⟩))
              go_ret
              exact ⟨by rw [lined_bad (k := j + 1 + 1) (by rw [Hs2.out, HL.out]; simp)]; rfl, (by repeat (first | with_reducible exact Below.refl _ _ | with_reducible assumption | with_reducible refine ExtD ?_ | with_reducible refine ExtDN ?_ | with_reducible refine ExtA ?_ | (with_reducible refine ExtR ?_ ?_; (first | omega | (dsimp only; omega) | (simp; done) | (simp; omega))) | (with_reducible refine ExtS ?_ ?_; (first | omega | (dsimp only; omega) | (simp; done) | (simp; omega))) | with_reducible refine Ext.tr ?_ (by with_reducible assumption)))⟩
            | true =>
              cases B3 with
              | false =>
                go_wp2_with (first
  | (go_at_call 56; (with_reducible refine (K1.out _).mono ?_); rintro e w1 ⟨rfl, hx1⟩; have b1 : Blk w1 wr.heap.size 44 #[.int .i64 li, .int .i64 lp, .int .i64 lq, .int .i64 lsh] := Ext.blk hx1 (BlkDN (BlkN rfl)); have d1 : w1.cell? ⟨wr.heap.size, 1, none⟩ = some (.int .i64 lp) := b1.cell 1)
  | (go_at_call 56; (with_reducible refine (K2.out _).mono ?_); rintro e w2 ⟨rfl, hx2⟩; have b2 := Ext.blk hx2 b1; have d2 : w2.cell? ⟨wr.heap.size, 2, none⟩ = some (.int .i64 lq) := b2.cell 2)
  | (go_at_call 56; (with_reducible refine (K3.out _).mono ?_); rintro e w3 ⟨rfl, hx3⟩; have b3 := Ext.blk hx3 b2; have d3 : w3.cell? ⟨wr.heap.size, 3, none⟩ = some (.int .i64 lsh) := b3.cell 3; have d32 : w3.cell? ⟨wr.heap.size, 2, none⟩ = some (.int .i64 lq) := b3.cell 2)
  | (go_at_call 56; (with_reducible refine (K4.out _).mono ?_); rintro e w4 ⟨rfl, hx4⟩))
                go_ret
                exact ⟨by rw [lined_bad (k := j + 1 + 1) (by rw [Hs2.out, HL.out]; simp)]; rfl, (by repeat (first | with_reducible exact Below.refl _ _ | with_reducible assumption | with_reducible refine ExtD ?_ | with_reducible refine ExtDN ?_ | with_reducible refine ExtA ?_ | (with_reducible refine ExtR ?_ ?_; (first | omega | (dsimp only; omega) | (simp; done) | (simp; omega))) | (with_reducible refine ExtS ?_ ?_; (first | omega | (dsimp only; omega) | (simp; done) | (simp; omega))) | with_reducible refine Ext.tr ?_ (by with_reducible assumption)))⟩
              | true =>
                cases B4 with
                | false =>
                  go_wp2_with (first
  | (go_at_call 56; (with_reducible refine (K1.out _).mono ?_); rintro e w1 ⟨rfl, hx1⟩; have b1 : Blk w1 wr.heap.size 44 #[.int .i64 li, .int .i64 lp, .int .i64 lq, .int .i64 lsh] := Ext.blk hx1 (BlkDN (BlkN rfl)); have d1 : w1.cell? ⟨wr.heap.size, 1, none⟩ = some (.int .i64 lp) := b1.cell 1)
  | (go_at_call 56; (with_reducible refine (K2.out _).mono ?_); rintro e w2 ⟨rfl, hx2⟩; have b2 := Ext.blk hx2 b1; have d2 : w2.cell? ⟨wr.heap.size, 2, none⟩ = some (.int .i64 lq) := b2.cell 2)
  | (go_at_call 56; (with_reducible refine (K3.out _).mono ?_); rintro e w3 ⟨rfl, hx3⟩; have b3 := Ext.blk hx3 b2; have d3 : w3.cell? ⟨wr.heap.size, 3, none⟩ = some (.int .i64 lsh) := b3.cell 3; have d32 : w3.cell? ⟨wr.heap.size, 2, none⟩ = some (.int .i64 lq) := b3.cell 2)
  | (go_at_call 56; (with_reducible refine (K4.out _).mono ?_); rintro e w4 ⟨rfl, hx4⟩))
                  go_ret
                  exact ⟨by rw [lined_bad (k := j + 1 + 1) (by rw [Hs2.out, HL.out]; simp)]; rfl, (by repeat (first | with_reducible exact Below.refl _ _ | with_reducible assumption | with_reducible refine ExtD ?_ | with_reducible refine ExtDN ?_ | with_reducible refine ExtA ?_ | (with_reducible refine ExtR ?_ ?_; (first | omega | (dsimp only; omega) | (simp; done) | (simp; omega))) | (with_reducible refine ExtS ?_ ?_; (first | omega | (dsimp only; omega) | (simp; done) | (simp; omega))) | with_reducible refine Ext.tr ?_ (by with_reducible assumption)))⟩
                | true =>
                  go_wp2_with (first
  | (go_at_call 56; (with_reducible refine (K1.out _).mono ?_); rintro e w1 ⟨rfl, hx1⟩; have b1 : Blk w1 wr.heap.size 44 #[.int .i64 li, .int .i64 lp, .int .i64 lq, .int .i64 lsh] := Ext.blk hx1 (BlkDN (BlkN rfl)); have d1 : w1.cell? ⟨wr.heap.size, 1, none⟩ = some (.int .i64 lp) := b1.cell 1)
  | (go_at_call 56; (with_reducible refine (K2.out _).mono ?_); rintro e w2 ⟨rfl, hx2⟩; have b2 := Ext.blk hx2 b1; have d2 : w2.cell? ⟨wr.heap.size, 2, none⟩ = some (.int .i64 lq) := b2.cell 2)
  | (go_at_call 56; (with_reducible refine (K3.out _).mono ?_); rintro e w3 ⟨rfl, hx3⟩; have b3 := Ext.blk hx3 b2; have d3 : w3.cell? ⟨wr.heap.size, 3, none⟩ = some (.int .i64 lsh) := b3.cell 3; have d32 : w3.cell? ⟨wr.heap.size, 2, none⟩ = some (.int .i64 lq) := b3.cell 2)
  | (go_at_call 56; (with_reducible refine (K4.out _).mono ?_); rintro e w4 ⟨rfl, hx4⟩))
                  refine And.intro ?_ ?_
                  exact ⟨j + 1 + 1, by go_num, by have := HN.out; omega, by rw [Hs2.out, HL.out]; first | (have := wi_iff.1 HB1.out.symm; simp; omega) | (have := Hp.out; simp; omega), (by repeat (first | with_reducible exact Below.refl _ _ | with_reducible assumption | with_reducible refine ExtD ?_ | with_reducible refine ExtDN ?_ | with_reducible refine ExtA ?_ | (with_reducible refine ExtR ?_ ?_; (first | omega | (dsimp only; omega) | (simp; done) | (simp; omega))) | (with_reducible refine ExtS ?_ ?_; (first | omega | (dsimp only; omega) | (simp; done) | (simp; omega))) | with_reducible refine Ext.tr ?_ (by with_reducible assumption)))⟩
                  simp [intOf]; omega
    · obtain rfl : k = n := by omega
      have htk : ls.take k = ls := List.take_of_length_le (by have := HN.out; omega)
      rw [htk] at Hrs
      go_wp2_with fail
      go_ret
      exact ⟨by rw [Hv.out, Hrs.out]; rfl, (by repeat (first | with_reducible exact Below.refl _ _ | with_reducible assumption | with_reducible refine ExtD ?_ | with_reducible refine ExtDN ?_ | with_reducible refine ExtA ?_ | (with_reducible refine ExtR ?_ ?_; (first | omega | (dsimp only; omega) | (simp; done) | (simp; omega))) | (with_reducible refine ExtS ?_ ?_; (first | omega | (dsimp only; omega) | (simp; done) | (simp; omega))) | with_reducible refine Ext.tr ?_ (by with_reducible assumption)))⟩
end Go.Proofs.YtjomgppbialeoaaGreat
