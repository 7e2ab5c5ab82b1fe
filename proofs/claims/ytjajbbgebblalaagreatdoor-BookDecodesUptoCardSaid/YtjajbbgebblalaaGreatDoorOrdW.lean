/-
  Orders in memory: lines, states, events; the walks of order.net and order.due.
-/
/-
  The walks of order.due, within, lined, shipped.
-/
/-
  The walk of order.lined.
-/
/-
  Lines of the call's own; copies and clears of structs; slices.Clone at lines.
-/
/-
  The walk of slices.Insert at lines: one line.
-/
/-
  The walk of slices.Insert at lines: in the middle, where there is room.
-/
/-
  The walks of the reference's Copy, and of its Same at equal states.
-/
import Derived.Test.YtjajbbgebblalaaGreatDoorNumW3
import Derived.Test.YtjajbbgebblalaaGreatDoorOwn
import Derived.Test.YtjajbbgebblalaaGreatDoorVarP
import Derived.Deep.MidRow
import Derived.Handy
import Derived.Deep.RegionHeld3
import Derived.Shelf.Spec.SlicesInsert
import Derived.Lib.AppendZerosOnto
import Derived.Deep.RegionLaw
import Derived.Shelf.RegionOpenPlain
namespace Go.Proofs.YtjajbbgebblalaaGreatDoor
open Go.RowKit
set_option linter.unusedVariables false
set_option linter.unusedSimpArgs false
def lncells (l : Ln) : Array Value := #[.int .i64 l.item, .int .i64 l.price, .int .i64 l.qty, .int .i64 l.shipped]
def lnCells (ls : List Ln) : List Value := ls.flatMap fun l => (lncells l).toList
/-- A slice of lines that reads as ls. -/
def LsRd (w : World) (A : Option Addr) (ls : List Ln) : Prop := RdN w 4 A ls.length (lnCells ls)
def stcells (s : St) (A : Option Addr) (c : Nat) : Array Value :=
  #[.int .i64 s.order, .int .i64 s.status, .int .i64 s.prior, .int .i64 s.cur, .int .i64 s.tax, .slice A s.lines.length c, .int .i64 s.paid, .int .i64 s.refunded, .int .i64 s.events, .int .i64 s.refused, .int .i64 s.stamp, .string s.who]
def evcells (e : Ev) : Array Value :=
  #[.int .i64 e.kind, .int .i64 e.order, .int .i64 e.item, .int .i64 e.qty, .int .i64 e.price, .int .i64 e.cur, .int .i64 e.tax, .string e.who, .int .i64 e.stamp, .string e.note]
theorem ln_wide : Wide Tryz.prog 79 4 := ⟨⟨_, Tryz.underlying79, rfl⟩, by kernel_rfl⟩
theorem st_wide : Wide Tryz.prog 77 12 := ⟨⟨_, Tryz.underlying77, rfl⟩, by kernel_rfl⟩
theorem ev_wide : Wide Tryz.prog 165 10 := ⟨⟨_, Tryz.underlying165, rfl⟩, by kernel_rfl⟩
theorem ln_one (l : Ln) : ∀ v ∈ (lncells l).toList, v.oneCell' = true := by
  intro v hv; simp [lncells] at hv; rcases hv with rfl | rfl | rfl | rfl <;> rfl
theorem lnCells_len (ls : List Ln) : (lnCells ls).length = ls.length * 4 := by
  induction ls with
  | nil => rfl
  | cons h r ih => simp only [lnCells, List.flatMap_cons, List.length_append] at ih ⊢; rw [ih]; simp [lncells]; omega
theorem lnCells_app (a b : List Ln) : lnCells (a ++ b) = lnCells a ++ lnCells b := by simp [lnCells]
theorem lnCells_one (ls : List Ln) : ∀ v ∈ lnCells ls, v.oneCell' = true := by
  intro v hv
  obtain ⟨l, _, hl⟩ := List.mem_flatMap.1 hv
  exact ln_one l v hl
theorem lnCells_at (ls : List Ln) (k j : Nat) (l : Ln) (hk : ls[k]? = some l) (hj : j < 4) : (lnCells ls)[k * 4 + j]? = (lncells l).toList[j]? := by
  induction ls generalizing k with
  | nil => simp at hk
  | cons g r ih =>
    have e : lnCells (g :: r) = (lncells g).toList ++ lnCells r := by simp [lnCells]
    rw [e]
    cases k with
    | zero =>
      simp at hk
      subst hk
      rw [List.getElem?_append_left (by simp [lncells]; omega)]
      simp
    | succ k =>
      rw [List.getElem?_append_right (by simp [lncells]; omega)]
      have : (k + 1) * 4 + j - (lncells g).toList.length = k * 4 + j := by simp [lncells]; omega
      rw [this]
      exact ih k (by simpa using hk)
theorem LsRd.ext {w w' : World} {A : Option Addr} {ls : List Ln} (h : LsRd w A ls) (hx : Ext w w') : LsRd w' A ls := RdN.ext h hx
theorem ls_at {w : World} {A : Option Addr} {k : Nat} {ls : List Ln} (h : LsRd w A ls) (hk : k < ls.length) :
    ∃ b o, A = some ⟨b, o, none⟩ ∧ w.rangeAt b (o + k * 4) (lncells ls[k]).toList := by
  obtain ⟨b, o, e, hc⟩ := h.2 (by omega)
  have hg : ls[k]? = some ls[k] := List.getElem?_eq_getElem hk
  refine ⟨b, o, e, fun j v hv => ?_⟩
  have hj : j < 4 := by
    have := (List.getElem?_eq_some_iff.1 hv).1
    simpa [lncells] using this
  rw [Nat.add_assoc]
  exact hc _ _ (by rw [lnCells_at ls k j _ hg hj]; exact hv)
section
variable {w : World}
theorem wpL_load_ln {ops : Array Oper} {rest : List Oper} {op : Oper} {a : Act} {Q : Exit → Act → World → Prop} (hgd : op.guard = none) (x : Operand) (ho : op.op = .load 79 x)
    (b o : Nat) (hx : a.eval x = .pointer (some ⟨b, o, none⟩)) (cs : Array Value) (hc : w.rangeAt b o cs.toList) (hsz : cs.size = 4)
    (h : wpList Tryz.prog ops Q rest (a.put op.dst (.agg cs)) w) : wpList Tryz.prog ops Q (op :: rest) a w := by
  obtain ⟨⟨d, hu, hd⟩, hi⟩ := ln_wide
  exact wpList_load_mid hgd 79 x ho b o hx cs.toList d hc hu (by revert hd; cases d <;> simp [TypeDesc.isRow]) (by rw [Array.length_toList, hsz]; exact hi) h
end
theorem net_snoc (a : List Ln) (l : Ln) : net (a ++ [l]) = net a + l.qty * l.price := by simp [net, List.sum_append]
theorem net_take {ls : List Ln} {k : Nat} (hk : k < ls.length) : net (ls.take (k + 1)) = net (ls.take k) + ls[k].qty * ls[k].price := by
  rw [List.take_succ_eq_append_getElem hk, net_snoc]
def NetR (W : World) (ls : List Ln) (c3 c9 : Value) (wr : World) : Prop :=
  ∃ k : Nat, c3 = .int .i64 (net (ls.take k)) ∧ c9 = .int .i64 (k : Nat) ∧ k ≤ ls.length ∧ Ext W wr
theorem alloc_ln (w : World) : (Instr.alloc 79 true (.tuple #[])).run Tryz.prog w = .ok (.pointer (some ⟨w.heap.size, 0, none⟩)) (w.alloc (.cells (lncells ⟨0, 0, 0, 0⟩) 79)) := by kernel_rfl
theorem prod_ok {l : Ln} (h : lnB l = true) : 0 ≤ l.qty * l.price ∧ l.qty * l.price ≤ 10000000000000 := by
  obtain ⟨_, ⟨p1, p2⟩, ⟨q1, q2⟩, _⟩ := lnB_iff.1 h
  exact ⟨Int.mul_nonneg (by omega) p1, Int.mul_le_mul q2 p2 p1 (by omega)⟩
set_option maxRecDepth 100000 in
set_option maxHeartbeats 2000000 in
theorem net_any (s : St) (A : Option Addr) (c : Nat) (w : World) (hr : LsRd w A s.lines) (hl : ∀ l ∈ s.lines, lnB l = true) (hn : s.lines.length ≤ 16) :
    Calls Tryz.prog 213 #[.agg (stcells s A c)] w fun e w' => e = .returned (.int .i64 (net s.lines)) ∧ Ext w w' := by
  obtain ⟨n, hnn⟩ : ∃ n, n = s.lines.length := ⟨_, rfl⟩
  unfold stcells
  rw [← hnn] at hn ⊢
  have HN := Lib.hid hnn
  clear hnn
  go_enter Tryz.func213, Tryz.ntmps213
  go_wp2_with fail
  go_loopw [3, 9] (fun c3 c9 wr => NetR w s.lines c3 c9 wr) (fun _ c9 _ => n - (intOf c9).toNat)
  case atStart => exact ⟨0, by simp [net], rfl, by omega, (by repeat (first | with_reducible exact Below.refl _ _ | with_reducible assumption | with_reducible refine ExtD ?_ | with_reducible refine ExtDN ?_ | with_reducible refine ExtA ?_ | (with_reducible refine ExtR ?_ ?_; (first | omega | (dsimp only; omega) | (simp; done) | (simp; omega))) | (with_reducible refine ExtS ?_ ?_; (first | omega | (dsimp only; omega) | (simp; done) | (simp; omega))) | with_reducible refine Ext.tr ?_ (by with_reducible assumption)))⟩
  case round =>
    obtain ⟨k, rfl, rfl, hk, hx⟩ := hrel
    rw [← HN.out] at hk
    by_cases hlt : k < n
    · obtain ⟨b, o, rfl, hc⟩ := ls_at hr (show k < s.lines.length by rw [← HN.out]; exact hlt)
      have Hc := Lib.hid (range_ext hc hx)
      have hal := alloc_ln
      have hp := prod_ok (hl _ (List.getElem_mem (show k < s.lines.length by rw [← HN.out]; exact hlt)))
      have hb := net_bound (ls := s.lines.take k) fun l h => hl l (List.mem_of_mem_take h)
      have hb2 : (s.lines.take k).length ≤ 16 := by simp; omega
      have Hs := Lib.hid (net_take (ls := s.lines) (k := k) (show k < s.lines.length by rw [← HN.out]; exact hlt))
      clear hc
      generalize s.lines[k]'(by rw [← HN.out]; exact hlt) = l at *
      generalize net (s.lines.take k) = m at *
      obtain ⟨li, lp, lq, lsh⟩ := l
      dsimp only at hp
      unfold lncells at Hc hal
      dsimp only at Hc hal
      have e0 : wr.cell? ⟨b, o + k * 4, none⟩ = some (.int .i64 li) := Hc.out 0 _ rfl
      have e1 : wr.cell? ⟨b, o + k * 4 + 1, none⟩ = some (.int .i64 lp) := Hc.out 1 _ rfl
      have e2 : wr.cell? ⟨b, o + k * 4 + 2, none⟩ = some (.int .i64 lq) := Hc.out 2 _ rfl
      have e3 : wr.cell? ⟨b, o + k * 4 + 3, none⟩ = some (.int .i64 lsh) := Hc.out 3 _ rfl
      go_wp2_with fail
      go_roundw
      case rel => exact ⟨k + 1, by rw [Hs.out], by go_num, by have := HN.out; omega, (by repeat (first | with_reducible exact Below.refl _ _ | with_reducible assumption | with_reducible refine ExtD ?_ | with_reducible refine ExtDN ?_ | with_reducible refine ExtA ?_ | (with_reducible refine ExtR ?_ ?_; (first | omega | (dsimp only; omega) | (simp; done) | (simp; omega))) | (with_reducible refine ExtS ?_ ?_; (first | omega | (dsimp only; omega) | (simp; done) | (simp; omega))) | with_reducible refine Ext.tr ?_ (by with_reducible assumption)))⟩
      case measure => simp [intOf]; omega
    · obtain rfl : k = n := by omega
      have htk : s.lines.take k = s.lines := List.take_of_length_le (by have := HN.out; omega)
      rw [htk]
      go_wp2_with fail
      go_ret
      exact ⟨rfl, (by repeat (first | with_reducible exact Below.refl _ _ | with_reducible assumption | with_reducible refine ExtD ?_ | with_reducible refine ExtDN ?_ | with_reducible refine ExtA ?_ | (with_reducible refine ExtR ?_ ?_; (first | omega | (dsimp only; omega) | (simp; done) | (simp; omega))) | (with_reducible refine ExtS ?_ ?_; (first | omega | (dsimp only; omega) | (simp; done) | (simp; omega))) | with_reducible refine Ext.tr ?_ (by with_reducible assumption)))⟩
end Go.Proofs.YtjajbbgebblalaaGreatDoor

namespace Go.Proofs.YtjajbbgebblalaaGreatDoor
open Go.RowKit
set_option linter.unusedVariables false
set_option linter.unusedSimpArgs false
theorem md_tax {n t : Int} (h0 : 0 ≤ n) (h1 : n ≤ 160000000000000) (t0 : 0 ≤ t) (t1 : t ≤ 5000) : mdV n t 10000 = taxOf n t := by
  have hq : mdQ n t 10000 = taxOf n t := by
    unfold mdQ taxOf
    have e1 : decide (n < 0) = false := by simp; omega
    have e2 : decide (t < 0) = false := by simp; omega
    have e3 : decide ((10000 : Int) < 0) = false := by decide
    rw [e1, e2, e3]
    obtain ⟨a, rfl⟩ := Int.eq_ofNat_of_zero_le h0
    obtain ⟨b, rfl⟩ := Int.eq_ofNat_of_zero_le t0
    simp [sg, absN]
  have hb := tax_bound h0 t0 t1
  unfold mdV mdF
  rw [hq, if_neg (show ¬ (10000 : Int) = 0 by omega)]
  rw [if_pos (by unfold fits64; simp; omega)]
theorem lines_net {s : St} (hl : ∀ l ∈ s.lines, lnB l = true) (hn : s.lines.length ≤ 16) : 0 ≤ net s.lines ∧ net s.lines ≤ 160000000000000 := by
  have := net_bound hl
  omega
set_option maxRecDepth 100000 in
set_option maxHeartbeats 2000000 in
theorem due_any (s : St) (A : Option Addr) (c : Nat) (w : World) (hr : LsRd w A s.lines) (hl : ∀ l ∈ s.lines, lnB l = true) (hn : s.lines.length ≤ 16) (ht : 0 ≤ s.tax ∧ s.tax ≤ 5000) :
    Calls Tryz.prog 160 #[.agg (stcells s A c)] w fun e w' => e = .returned (.int .i64 (due s)) ∧ Ext w w' := by
  have hb := lines_net hl hn
  have htx := tax_bound hb.1 ht.1 ht.2
  have Hd : Hid (due s = net s.lines + taxOf (net s.lines) s.tax) := Lib.hid rfl
  have Kn : Hid (∀ w', Ext w w' → Calls Tryz.prog 213 #[.agg (stcells s A c)] w' fun e w2 => e = .returned (.int .i64 (net s.lines)) ∧ Ext w' w2) := Lib.hid fun w' hx => net_any s A c w' (hr.ext hx) hl hn
  have Km : Hid (∀ w', Calls Tryz.prog 214 #[.int .i64 (net s.lines), .int .i64 s.tax, .int .i64 10000] w' fun e w2 => e = .returned (.tuple #[.int .i64 (taxOf (net s.lines) s.tax), .bool (mdF (net s.lines) s.tax 10000)]) ∧ Ext w' w2) := Lib.hid fun w' => by
    have h := muldiv_any (net s.lines) s.tax 10000 w' (by omega) (by omega) (by omega) (by omega) (by omega) (by omega)
    rw [md_tax hb.1 hb.2 ht.1 ht.2] at h
    exact h
  obtain ⟨X, hX⟩ : ∃ X, X = taxOf (net s.lines) s.tax := ⟨_, rfl⟩
  obtain ⟨N, hN⟩ : ∃ N, N = net s.lines := ⟨_, rfl⟩
  obtain ⟨F, hF⟩ : ∃ F, F = mdF (net s.lines) s.tax 10000 := ⟨_, rfl⟩
  rw [← hX] at Hd Km htx
  rw [← hF] at Km
  rw [← hN] at Hd Km Kn hb htx
  clear hX hN hF
  unfold stcells at Kn ⊢
  go_enter Tryz.func160, Tryz.ntmps160
  go_wp2_with (first
    | (go_at_call 213; go_must (with_reducible refine (Kn.out _ (ExtA (Ext.rfl' w))).mono ?_); rintro e w1 ⟨rfl, hx1⟩; have e4 : w1.cell? ⟨w.heap.size, 4, none⟩ = some (.int .i64 s.tax) := (Ext.blk hx1 (BlkN rfl)).cell 4)
    | (go_at_call 214; go_must (with_reducible refine (Km.out _).mono ?_); rintro e w2 ⟨rfl, hx2⟩))
  go_ret
  exact ⟨by rw [Hd.out]; go_num, (by repeat (first | with_reducible exact Below.refl _ _ | with_reducible assumption | with_reducible refine ExtD ?_ | with_reducible refine ExtDN ?_ | with_reducible refine ExtA ?_ | (with_reducible refine ExtR ?_ ?_; (first | omega | (dsimp only; omega) | (simp; done) | (simp; omega))) | (with_reducible refine ExtS ?_ ?_; (first | omega | (dsimp only; omega) | (simp; done) | (simp; omega))) | with_reducible refine Ext.tr ?_ (by with_reducible assumption)))⟩
theorem within_any (x lo hi : Int) (w : World) : Calls Tryz.prog 210 #[.int .i64 x, .int .i64 lo, .int .i64 hi] w fun e w' => e = .returned (.bool (wi x lo hi)) ∧ Ext w w' := by
  have Hv : Hid (wi x lo hi = decide (lo ≤ x ∧ x ≤ hi)) := Lib.hid rfl
  by_cases h1 : lo ≤ x
  · go_enter Tryz.func210, Tryz.ntmps210
    go_wp2_with fail
    go_ret
    exact ⟨by rw [Hv.out]; simp [h1], (by repeat (first | with_reducible exact Below.refl _ _ | with_reducible assumption | with_reducible refine ExtD ?_ | with_reducible refine ExtDN ?_ | with_reducible refine ExtA ?_ | (with_reducible refine ExtR ?_ ?_; (first | omega | (dsimp only; omega) | (simp; done) | (simp; omega))) | (with_reducible refine ExtS ?_ ?_; (first | omega | (dsimp only; omega) | (simp; done) | (simp; omega))) | with_reducible refine Ext.tr ?_ (by with_reducible assumption)))⟩
  · go_enter Tryz.func210, Tryz.ntmps210
    go_wp2_with fail
    go_ret
    exact ⟨by rw [Hv.out]; simp; omega, (by repeat (first | with_reducible exact Below.refl _ _ | with_reducible assumption | with_reducible refine ExtD ?_ | with_reducible refine ExtDN ?_ | with_reducible refine ExtA ?_ | (with_reducible refine ExtR ?_ ?_; (first | omega | (dsimp only; omega) | (simp; done) | (simp; omega))) | (with_reducible refine ExtS ?_ ?_; (first | omega | (dsimp only; omega) | (simp; done) | (simp; omega))) | with_reducible refine Ext.tr ?_ (by with_reducible assumption)))⟩
def ShR (W : World) (ls : List Ln) (c2 c3 c9 : Value) (wr : World) : Prop :=
  ∃ (k : Nat) (a b : Bool), c2 = .bool a ∧ c3 = .bool b ∧ c9 = .int .i64 (k : Nat) ∧ k ≤ ls.length ∧ a = noneB (ls.take k) ∧ b = allB (ls.take k) ∧ Ext W wr
theorem noneB_take {ls : List Ln} {k : Nat} (hk : k < ls.length) : noneB (ls.take (k + 1)) = (noneB (ls.take k) && decide (ls[k].shipped = 0)) := by
  rw [List.take_succ_eq_append_getElem hk]; simp only [noneB, List.all_append, List.all_cons, List.all_nil, Bool.and_true]
theorem allB_take {ls : List Ln} {k : Nat} (hk : k < ls.length) : allB (ls.take (k + 1)) = (allB (ls.take k) && decide (ls[k].shipped = ls[k].qty)) := by
  rw [List.take_succ_eq_append_getElem hk]; simp only [allB, List.all_append, List.all_cons, List.all_nil, Bool.and_true]
set_option maxRecDepth 100000 in
set_option maxHeartbeats 2000000 in
theorem shipped_any (s : St) (A : Option Addr) (c : Nat) (w : World) (hr : LsRd w A s.lines) (hn : s.lines.length ≤ 4611686018427387904) :
    Calls Tryz.prog 161 #[.agg (stcells s A c)] w fun e w' => e = .returned (.tuple #[.bool (noneB s.lines), .bool (allB s.lines)]) ∧ Ext w w' := by
  obtain ⟨n, hnn⟩ : ∃ n, n = s.lines.length := ⟨_, rfl⟩
  unfold stcells
  rw [← hnn] at hn ⊢
  have HN := Lib.hid hnn
  clear hnn
  go_enter Tryz.func161, Tryz.ntmps161
  go_wp2_with fail
  go_loopw [2, 3, 9] (fun c2 c3 c9 wr => ShR w s.lines c2 c3 c9 wr) (fun _ _ c9 _ => n - (intOf c9).toNat)
  case atStart => exact ⟨0, true, true, rfl, rfl, rfl, by omega, rfl, rfl, (by repeat (first | with_reducible exact Below.refl _ _ | with_reducible assumption | with_reducible refine ExtD ?_ | with_reducible refine ExtDN ?_ | with_reducible refine ExtA ?_ | (with_reducible refine ExtR ?_ ?_; (first | omega | (dsimp only; omega) | (simp; done) | (simp; omega))) | (with_reducible refine ExtS ?_ ?_; (first | omega | (dsimp only; omega) | (simp; done) | (simp; omega))) | with_reducible refine Ext.tr ?_ (by with_reducible assumption)))⟩
  case round =>
    obtain ⟨k, a, bb, rfl, rfl, rfl, hk, ha, hb, hx⟩ := hrel
    rw [← HN.out] at hk
    have Ha := Lib.hid ha
    have Hb := Lib.hid hb
    clear ha hb
    by_cases hlt : k < n
    · obtain ⟨b, o, rfl, hc⟩ := ls_at hr (show k < s.lines.length by rw [← HN.out]; exact hlt)
      have Hc := Lib.hid (range_ext hc hx)
      have hal := alloc_ln
      have Hs1 := Lib.hid (noneB_take (ls := s.lines) (k := k) (show k < s.lines.length by rw [← HN.out]; exact hlt))
      have Hs2 := Lib.hid (allB_take (ls := s.lines) (k := k) (show k < s.lines.length by rw [← HN.out]; exact hlt))
      clear hc
      generalize s.lines[k]'(by rw [← HN.out]; exact hlt) = l at *
      obtain ⟨li, lp, lq, lsh⟩ := l
      unfold lncells at Hc hal
      dsimp only at Hc hal
      have e0 : wr.cell? ⟨b, o + k * 4, none⟩ = some (.int .i64 li) := Hc.out 0 _ rfl
      have e1 : wr.cell? ⟨b, o + k * 4 + 1, none⟩ = some (.int .i64 lp) := Hc.out 1 _ rfl
      have e2 : wr.cell? ⟨b, o + k * 4 + 2, none⟩ = some (.int .i64 lq) := Hc.out 2 _ rfl
      have e3 : wr.cell? ⟨b, o + k * 4 + 3, none⟩ = some (.int .i64 lsh) := Hc.out 3 _ rfl
      cases a <;> cases bb
      all_goals
        go_wp2_with fail
        refine And.intro ?_ ?_
        exact ⟨k + 1, _, _, rfl, rfl, by go_num, by have := HN.out; omega, by rw [Hs1.out, ← Ha.out]; simp [Bool.beq_eq_decide_eq], by rw [Hs2.out, ← Hb.out]; simp [Bool.beq_eq_decide_eq], (by repeat (first | with_reducible exact Below.refl _ _ | with_reducible assumption | with_reducible refine ExtD ?_ | with_reducible refine ExtDN ?_ | with_reducible refine ExtA ?_ | (with_reducible refine ExtR ?_ ?_; (first | omega | (dsimp only; omega) | (simp; done) | (simp; omega))) | (with_reducible refine ExtS ?_ ?_; (first | omega | (dsimp only; omega) | (simp; done) | (simp; omega))) | with_reducible refine Ext.tr ?_ (by with_reducible assumption)))⟩
        simp [intOf]; omega
    · obtain rfl : k = n := by omega
      have htk : s.lines.take k = s.lines := List.take_of_length_le (by have := HN.out; omega)
      rw [htk] at Ha Hb
      go_wp2_with fail
      go_ret2
      exact ⟨by rw [Ha.out, Hb.out]; rfl, (by repeat (first | with_reducible exact Below.refl _ _ | with_reducible assumption | with_reducible refine ExtD ?_ | with_reducible refine ExtDN ?_ | with_reducible refine ExtA ?_ | (with_reducible refine ExtR ?_ ?_; (first | omega | (dsimp only; omega) | (simp; done) | (simp; omega))) | (with_reducible refine ExtS ?_ ?_; (first | omega | (dsimp only; omega) | (simp; done) | (simp; omega))) | with_reducible refine Ext.tr ?_ (by with_reducible assumption)))⟩
end Go.Proofs.YtjajbbgebblalaaGreatDoor

namespace Go.Proofs.YtjajbbgebblalaaGreatDoor
open Go.RowKit
set_option linter.unusedVariables false
set_option linter.unusedSimpArgs false
def lastOr (b : Int) (a : List Ln) : Int := (a.getLast?.map (·.item)).getD b
theorem rises_snoc (b : Int) (a : List Ln) (l : Ln) : risesB b (a ++ [l]) = (risesB b a && decide (lastOr b a < l.item) && lnB l) := by
  induction a generalizing b with
  | nil =>
    show (decide (b < l.item) && lnB l && true) = (true && decide (b < l.item) && lnB l)
    rw [Bool.and_true, Bool.true_and]
  | cons x r ih =>
    have e : lastOr b (x :: r) = lastOr x.item r := by
      unfold lastOr
      rw [List.getLast?_cons]
      cases r.getLast? <;> simp
    simp only [List.cons_append, risesB, ih, e, Bool.and_assoc]
theorem rises_pre {b : Int} {a r : List Ln} (h : risesB b (a ++ r) = true) : risesB b a = true := by
  induction a generalizing b with
  | nil => rfl
  | cons x t ih =>
    obtain ⟨h1, h2, h3⟩ := rises_cons.1 h
    exact rises_cons.2 ⟨h1, h2, ih h3⟩
theorem lined_bad {ls : List Ln} {k : Nat} (h : risesB (-1) (ls.take k) = false) : linedB ls = false := by
  unfold linedB
  cases hr : risesB (-1) ls with
  | false => simp
  | true =>
    rw [← List.take_append_drop k ls] at hr
    rw [rises_pre hr] at h
    cases h
def LinedR (W : World) (ls : List Ln) (c10 : Value) (wr : World) : Prop :=
  ∃ k : Nat, c10 = .int .i64 (k : Nat) ∧ k ≤ ls.length ∧ risesB (-1) (ls.take k) = true ∧ Ext W wr
theorem rises_take {ls : List Ln} {k : Nat} (hk : k < ls.length) : risesB (-1) (ls.take (k + 1)) = (risesB (-1) (ls.take k) && decide (lastOr (-1) (ls.take k) < ls[k].item) && lnB ls[k]) := by
  rw [List.take_succ_eq_append_getElem hk, rises_snoc]
theorem last_take {ls : List Ln} {j : Nat} (hj : j < ls.length) : lastOr (-1) (ls.take (j + 1)) = ls[j].item := by
  unfold lastOr
  rw [List.take_succ_eq_append_getElem hj, List.getLast?_append]
  simp
set_option maxRecDepth 100000 in
set_option maxHeartbeats 2000000 in
theorem lined_any (ls : List Ln) (A : Option Addr) (c : Nat) (w : World) (hr : LsRd w A ls) (hn : ls.length ≤ 4611686018427387904) :
    Calls Tryz.prog 211 #[.slice A ls.length c] w fun e w' => e = .returned (.bool (linedB ls)) ∧ Ext w w' := by
  obtain ⟨n, hnn⟩ : ∃ n, n = ls.length := ⟨_, rfl⟩
  rw [← hnn] at hn ⊢
  have HN := Lib.hid hnn
  clear hnn
  by_cases h16 : 16 < n
  · have Hv : Hid (linedB ls = false) := Lib.hid (by unfold linedB; rw [← HN.out]; simp; omega)
    go_enter Tryz.func211, Tryz.ntmps211
    go_wp2_with fail
    go_ret
    exact ⟨by rw [Hv.out]; rfl, (by repeat (first | with_reducible exact Below.refl _ _ | with_reducible assumption | with_reducible refine ExtD ?_ | with_reducible refine ExtDN ?_ | with_reducible refine ExtA ?_ | (with_reducible refine ExtR ?_ ?_; (first | omega | (dsimp only; omega) | (simp; done) | (simp; omega))) | (with_reducible refine ExtS ?_ ?_; (first | omega | (dsimp only; omega) | (simp; done) | (simp; omega))) | with_reducible refine Ext.tr ?_ (by with_reducible assumption)))⟩
  have Hv : Hid (linedB ls = risesB (-1) ls) := Lib.hid (by unfold linedB; rw [← HN.out]; simp; omega)
  go_enter Tryz.func211, Tryz.ntmps211
  go_wp2_with fail
  go_loopw [10] (fun c10 wr => LinedR w ls c10 wr) (fun c10 _ => n - (intOf c10).toNat)
  case atStart => exact ⟨0, rfl, by omega, rfl, (by repeat (first | with_reducible exact Below.refl _ _ | with_reducible assumption | with_reducible refine ExtD ?_ | with_reducible refine ExtDN ?_ | with_reducible refine ExtA ?_ | (with_reducible refine ExtR ?_ ?_; (first | omega | (dsimp only; omega) | (simp; done) | (simp; omega))) | (with_reducible refine ExtS ?_ ?_; (first | omega | (dsimp only; omega) | (simp; done) | (simp; omega))) | with_reducible refine Ext.tr ?_ (by with_reducible assumption)))⟩
  case round =>
    obtain ⟨k, rfl, hk, hrs, hx⟩ := hrel
    rw [← HN.out] at hk
    have Hrs := Lib.hid hrs
    clear hrs
    by_cases hlt : k < n
    · obtain ⟨b, o, rfl, hc⟩ := ls_at hr (show k < ls.length by rw [← HN.out]; exact hlt)
      have Hc := Lib.hid (range_ext hc hx)
      have hal := alloc_ln
      have Hs1 := Lib.hid (rises_take (ls := ls) (k := k) (show k < ls.length by rw [← HN.out]; exact hlt))
      rw [Hrs.out, Bool.true_and] at Hs1
      clear hc
      generalize ls[k]'(by rw [← HN.out]; exact hlt) = l at *
      obtain ⟨li, lp, lq, lsh⟩ := l
      unfold lncells at Hc hal
      dsimp only at Hc hal
      have e0 : wr.cell? ⟨b, o + k * 4, none⟩ = some (.int .i64 li) := Hc.out 0 _ rfl
      have e1 : wr.cell? ⟨b, o + k * 4 + 1, none⟩ = some (.int .i64 lp) := Hc.out 1 _ rfl
      have e2 : wr.cell? ⟨b, o + k * 4 + 2, none⟩ = some (.int .i64 lq) := Hc.out 2 _ rfl
      have e3 : wr.cell? ⟨b, o + k * 4 + 3, none⟩ = some (.int .i64 lsh) := Hc.out 3 _ rfl
      obtain ⟨B1, hB1⟩ : ∃ b, b = wi li 0 65535 := ⟨_, rfl⟩
      obtain ⟨B2, hB2⟩ : ∃ b, b = wi lp 0 100000000 := ⟨_, rfl⟩
      obtain ⟨B3, hB3⟩ : ∃ b, b = wi lq 1 100000 := ⟨_, rfl⟩
      obtain ⟨B4, hB4⟩ : ∃ b, b = wi lsh 0 lq := ⟨_, rfl⟩
      have K1 := Lib.hid fun W => within_any li 0 65535 W
      have K2 := Lib.hid fun W => within_any lp 0 100000000 W
      have K3 := Lib.hid fun W => within_any lq 1 100000 W
      have K4 := Lib.hid fun W => within_any lsh 0 lq W
      have HL : Hid (lnB ⟨li, lp, lq, lsh⟩ = (B1 && B2 && B3 && B4)) := Lib.hid (by rw [hB1, hB2, hB3, hB4]; rfl)
      rw [← hB1] at K1
      rw [← hB2] at K2
      rw [← hB3] at K3
      rw [← hB4] at K4
      have HB1 := Lib.hid hB1
      clear hB1 hB2 hB3 hB4
      by_cases h0 : k = 0
      · have hz : decide ((0 : Int) < (k : Int)) = false := by simp; omega
        have tz : decide (0 < k) = false := by simp; omega
        have Hs2 : Hid (risesB (-1) (ls.take (k + 1)) = (decide (-1 < li) && lnB ⟨li, lp, lq, lsh⟩)) := Lib.hid (by rw [Hs1.out, h0]; rfl)
        have H0 := Lib.hid h0
        clear h0
        go_wp2_with fail
        go_quiet (fail)
        cases B1 with
        | false =>
          go_wp2_with (first
  | (go_at_call 210; (with_reducible refine (K1.out _).mono ?_); rintro e w1 ⟨rfl, hx1⟩; have b1 : Blk w1 wr.heap.size 79 #[.int .i64 li, .int .i64 lp, .int .i64 lq, .int .i64 lsh] := Ext.blk hx1 (BlkDN (BlkN rfl)); have d1 : w1.cell? ⟨wr.heap.size, 1, none⟩ = some (.int .i64 lp) := b1.cell 1)
  | (go_at_call 210; (with_reducible refine (K2.out _).mono ?_); rintro e w2 ⟨rfl, hx2⟩; have b2 := Ext.blk hx2 b1; have d2 : w2.cell? ⟨wr.heap.size, 2, none⟩ = some (.int .i64 lq) := b2.cell 2)
  | (go_at_call 210; (with_reducible refine (K3.out _).mono ?_); rintro e w3 ⟨rfl, hx3⟩; have b3 := Ext.blk hx3 b2; have d3 : w3.cell? ⟨wr.heap.size, 3, none⟩ = some (.int .i64 lsh) := b3.cell 3; have d32 : w3.cell? ⟨wr.heap.size, 2, none⟩ = some (.int .i64 lq) := b3.cell 2)
  | (go_at_call 210; (with_reducible refine (K4.out _).mono ?_); rintro e w4 ⟨rfl, hx4⟩))
          go_ret
          exact ⟨by rw [lined_bad (k := k + 1) (by rw [Hs2.out, HL.out]; simp)]; rfl, (by repeat (first | with_reducible exact Below.refl _ _ | with_reducible assumption | with_reducible refine ExtD ?_ | with_reducible refine ExtDN ?_ | with_reducible refine ExtA ?_ | (with_reducible refine ExtR ?_ ?_; (first | omega | (dsimp only; omega) | (simp; done) | (simp; omega))) | (with_reducible refine ExtS ?_ ?_; (first | omega | (dsimp only; omega) | (simp; done) | (simp; omega))) | with_reducible refine Ext.tr ?_ (by with_reducible assumption)))⟩
        | true =>
          cases B2 with
          | false =>
            go_wp2_with (first
  | (go_at_call 210; (with_reducible refine (K1.out _).mono ?_); rintro e w1 ⟨rfl, hx1⟩; have b1 : Blk w1 wr.heap.size 79 #[.int .i64 li, .int .i64 lp, .int .i64 lq, .int .i64 lsh] := Ext.blk hx1 (BlkDN (BlkN rfl)); have d1 : w1.cell? ⟨wr.heap.size, 1, none⟩ = some (.int .i64 lp) := b1.cell 1)
  | (go_at_call 210; (with_reducible refine (K2.out _).mono ?_); rintro e w2 ⟨rfl, hx2⟩; have b2 := Ext.blk hx2 b1; have d2 : w2.cell? ⟨wr.heap.size, 2, none⟩ = some (.int .i64 lq) := b2.cell 2)
  | (go_at_call 210; (with_reducible refine (K3.out _).mono ?_); rintro e w3 ⟨rfl, hx3⟩; have b3 := Ext.blk hx3 b2; have d3 : w3.cell? ⟨wr.heap.size, 3, none⟩ = some (.int .i64 lsh) := b3.cell 3; have d32 : w3.cell? ⟨wr.heap.size, 2, none⟩ = some (.int .i64 lq) := b3.cell 2)
  | (go_at_call 210; (with_reducible refine (K4.out _).mono ?_); rintro e w4 ⟨rfl, hx4⟩))
            go_ret
            exact ⟨by rw [lined_bad (k := k + 1) (by rw [Hs2.out, HL.out]; simp)]; rfl, (by repeat (first | with_reducible exact Below.refl _ _ | with_reducible assumption | with_reducible refine ExtD ?_ | with_reducible refine ExtDN ?_ | with_reducible refine ExtA ?_ | (with_reducible refine ExtR ?_ ?_; (first | omega | (dsimp only; omega) | (simp; done) | (simp; omega))) | (with_reducible refine ExtS ?_ ?_; (first | omega | (dsimp only; omega) | (simp; done) | (simp; omega))) | with_reducible refine Ext.tr ?_ (by with_reducible assumption)))⟩
          | true =>
            cases B3 with
            | false =>
              go_wp2_with (first
  | (go_at_call 210; (with_reducible refine (K1.out _).mono ?_); rintro e w1 ⟨rfl, hx1⟩; have b1 : Blk w1 wr.heap.size 79 #[.int .i64 li, .int .i64 lp, .int .i64 lq, .int .i64 lsh] := Ext.blk hx1 (BlkDN (BlkN rfl)); have d1 : w1.cell? ⟨wr.heap.size, 1, none⟩ = some (.int .i64 lp) := b1.cell 1)
  | (go_at_call 210; (with_reducible refine (K2.out _).mono ?_); rintro e w2 ⟨rfl, hx2⟩; have b2 := Ext.blk hx2 b1; have d2 : w2.cell? ⟨wr.heap.size, 2, none⟩ = some (.int .i64 lq) := b2.cell 2)
  | (go_at_call 210; (with_reducible refine (K3.out _).mono ?_); rintro e w3 ⟨rfl, hx3⟩; have b3 := Ext.blk hx3 b2; have d3 : w3.cell? ⟨wr.heap.size, 3, none⟩ = some (.int .i64 lsh) := b3.cell 3; have d32 : w3.cell? ⟨wr.heap.size, 2, none⟩ = some (.int .i64 lq) := b3.cell 2)
  | (go_at_call 210; (with_reducible refine (K4.out _).mono ?_); rintro e w4 ⟨rfl, hx4⟩))
              go_ret
              exact ⟨by rw [lined_bad (k := k + 1) (by rw [Hs2.out, HL.out]; simp)]; rfl, (by repeat (first | with_reducible exact Below.refl _ _ | with_reducible assumption | with_reducible refine ExtD ?_ | with_reducible refine ExtDN ?_ | with_reducible refine ExtA ?_ | (with_reducible refine ExtR ?_ ?_; (first | omega | (dsimp only; omega) | (simp; done) | (simp; omega))) | (with_reducible refine ExtS ?_ ?_; (first | omega | (dsimp only; omega) | (simp; done) | (simp; omega))) | with_reducible refine Ext.tr ?_ (by with_reducible assumption)))⟩
            | true =>
              cases B4 with
              | false =>
                go_wp2_with (first
  | (go_at_call 210; (with_reducible refine (K1.out _).mono ?_); rintro e w1 ⟨rfl, hx1⟩; have b1 : Blk w1 wr.heap.size 79 #[.int .i64 li, .int .i64 lp, .int .i64 lq, .int .i64 lsh] := Ext.blk hx1 (BlkDN (BlkN rfl)); have d1 : w1.cell? ⟨wr.heap.size, 1, none⟩ = some (.int .i64 lp) := b1.cell 1)
  | (go_at_call 210; (with_reducible refine (K2.out _).mono ?_); rintro e w2 ⟨rfl, hx2⟩; have b2 := Ext.blk hx2 b1; have d2 : w2.cell? ⟨wr.heap.size, 2, none⟩ = some (.int .i64 lq) := b2.cell 2)
  | (go_at_call 210; (with_reducible refine (K3.out _).mono ?_); rintro e w3 ⟨rfl, hx3⟩; have b3 := Ext.blk hx3 b2; have d3 : w3.cell? ⟨wr.heap.size, 3, none⟩ = some (.int .i64 lsh) := b3.cell 3; have d32 : w3.cell? ⟨wr.heap.size, 2, none⟩ = some (.int .i64 lq) := b3.cell 2)
  | (go_at_call 210; (with_reducible refine (K4.out _).mono ?_); rintro e w4 ⟨rfl, hx4⟩))
                go_ret
                exact ⟨by rw [lined_bad (k := k + 1) (by rw [Hs2.out, HL.out]; simp)]; rfl, (by repeat (first | with_reducible exact Below.refl _ _ | with_reducible assumption | with_reducible refine ExtD ?_ | with_reducible refine ExtDN ?_ | with_reducible refine ExtA ?_ | (with_reducible refine ExtR ?_ ?_; (first | omega | (dsimp only; omega) | (simp; done) | (simp; omega))) | (with_reducible refine ExtS ?_ ?_; (first | omega | (dsimp only; omega) | (simp; done) | (simp; omega))) | with_reducible refine Ext.tr ?_ (by with_reducible assumption)))⟩
              | true =>
                go_wp2_with (first
  | (go_at_call 210; (with_reducible refine (K1.out _).mono ?_); rintro e w1 ⟨rfl, hx1⟩; have b1 : Blk w1 wr.heap.size 79 #[.int .i64 li, .int .i64 lp, .int .i64 lq, .int .i64 lsh] := Ext.blk hx1 (BlkDN (BlkN rfl)); have d1 : w1.cell? ⟨wr.heap.size, 1, none⟩ = some (.int .i64 lp) := b1.cell 1)
  | (go_at_call 210; (with_reducible refine (K2.out _).mono ?_); rintro e w2 ⟨rfl, hx2⟩; have b2 := Ext.blk hx2 b1; have d2 : w2.cell? ⟨wr.heap.size, 2, none⟩ = some (.int .i64 lq) := b2.cell 2)
  | (go_at_call 210; (with_reducible refine (K3.out _).mono ?_); rintro e w3 ⟨rfl, hx3⟩; have b3 := Ext.blk hx3 b2; have d3 : w3.cell? ⟨wr.heap.size, 3, none⟩ = some (.int .i64 lsh) := b3.cell 3; have d32 : w3.cell? ⟨wr.heap.size, 2, none⟩ = some (.int .i64 lq) := b3.cell 2)
  | (go_at_call 210; (with_reducible refine (K4.out _).mono ?_); rintro e w4 ⟨rfl, hx4⟩))
                refine And.intro ?_ ?_
                exact ⟨k + 1, by go_num, by have := HN.out; omega, by rw [Hs2.out, HL.out]; first | (have := wi_iff.1 HB1.out.symm; simp; omega) | (have := Hp.out; simp; omega), (by repeat (first | with_reducible exact Below.refl _ _ | with_reducible assumption | with_reducible refine ExtD ?_ | with_reducible refine ExtDN ?_ | with_reducible refine ExtA ?_ | (with_reducible refine ExtR ?_ ?_; (first | omega | (dsimp only; omega) | (simp; done) | (simp; omega))) | (with_reducible refine ExtS ?_ ?_; (first | omega | (dsimp only; omega) | (simp; done) | (simp; omega))) | with_reducible refine Ext.tr ?_ (by with_reducible assumption)))⟩
                simp [intOf]; omega
      · obtain ⟨j, rfl⟩ : ∃ j, k = j + 1 := ⟨k - 1, by omega⟩
        obtain ⟨b', o', hA, hc'⟩ := ls_at hr (show j < ls.length by rw [← HN.out]; omega)
        cases hA
        have Hlast := Lib.hid (last_take (ls := ls) (j := j) (show j < ls.length by rw [← HN.out]; omega))
        have f0 := (range_ext hc' hx) 0 _ rfl
        dsimp only [Nat.add_zero] at f0
        generalize (ls[j]'(by rw [← HN.out]; omega)).item = pj at *
        have Hs2 : Hid (risesB (-1) (ls.take (j + 1 + 1)) = (decide (pj < li) && lnB ⟨li, lp, lq, lsh⟩)) := Lib.hid (by rw [Hs1.out, Hlast.out])
        clear hc' h0
        have f1 : ∀ ob, (wr.alloc ob).cell? ⟨b, o + j * 4, none⟩ = some (.int .i64 pj) := fun ob => Ext.cell (ExtA (Ext.rfl' wr)) f0
        have hjn : j < n := by omega
        have hwj : IntKind.i64.wrap (j : Int) = (j : Int) := by rw [IntKind.wrap_i64]; omega
        have hjn2 : (j : Int) < (n : Int) := by omega
        by_cases hp : li ≤ pj
        · have Hp := Lib.hid hp
          go_wp2_with fail
          go_quiet (fail)
          go_wp2_with fail
          go_ret
          exact ⟨by rw [lined_bad (k := j + 1 + 1) (by rw [Hs2.out]; have := Hp.out; simp; omega)]; rfl, (by repeat (first | with_reducible exact Below.refl _ _ | with_reducible assumption | with_reducible refine ExtD ?_ | with_reducible refine ExtDN ?_ | with_reducible refine ExtA ?_ | (with_reducible refine ExtR ?_ ?_; (first | omega | (dsimp only; omega) | (simp; done) | (simp; omega))) | (with_reducible refine ExtS ?_ ?_; (first | omega | (dsimp only; omega) | (simp; done) | (simp; omega))) | with_reducible refine Ext.tr ?_ (by with_reducible assumption)))⟩
        · have Hp := Lib.hid hp
          go_wp2_with fail
          go_quiet (fail)
          cases B1 with
          | false =>
            go_wp2_with (first
  | (go_at_call 210; (with_reducible refine (K1.out _).mono ?_); rintro e w1 ⟨rfl, hx1⟩; have b1 : Blk w1 wr.heap.size 79 #[.int .i64 li, .int .i64 lp, .int .i64 lq, .int .i64 lsh] := Ext.blk hx1 (BlkDN (BlkN rfl)); have d1 : w1.cell? ⟨wr.heap.size, 1, none⟩ = some (.int .i64 lp) := b1.cell 1)
  | (go_at_call 210; (with_reducible refine (K2.out _).mono ?_); rintro e w2 ⟨rfl, hx2⟩; have b2 := Ext.blk hx2 b1; have d2 : w2.cell? ⟨wr.heap.size, 2, none⟩ = some (.int .i64 lq) := b2.cell 2)
  | (go_at_call 210; (with_reducible refine (K3.out _).mono ?_); rintro e w3 ⟨rfl, hx3⟩; have b3 := Ext.blk hx3 b2; have d3 : w3.cell? ⟨wr.heap.size, 3, none⟩ = some (.int .i64 lsh) := b3.cell 3; have d32 : w3.cell? ⟨wr.heap.size, 2, none⟩ = some (.int .i64 lq) := b3.cell 2)
  | (go_at_call 210; (with_reducible refine (K4.out _).mono ?_); rintro e w4 ⟨rfl, hx4⟩))
            go_ret
            exact ⟨by rw [lined_bad (k := j + 1 + 1) (by rw [Hs2.out, HL.out]; simp)]; rfl, (by repeat (first | with_reducible exact Below.refl _ _ | with_reducible assumption | with_reducible refine ExtD ?_ | with_reducible refine ExtDN ?_ | with_reducible refine ExtA ?_ | (with_reducible refine ExtR ?_ ?_; (first | omega | (dsimp only; omega) | (simp; done) | (simp; omega))) | (with_reducible refine ExtS ?_ ?_; (first | omega | (dsimp only; omega) | (simp; done) | (simp; omega))) | with_reducible refine Ext.tr ?_ (by with_reducible assumption)))⟩
          | true =>
            cases B2 with
            | false =>
              go_wp2_with (first
  | (go_at_call 210; (with_reducible refine (K1.out _).mono ?_); rintro e w1 ⟨rfl, hx1⟩; have b1 : Blk w1 wr.heap.size 79 #[.int .i64 li, .int .i64 lp, .int .i64 lq, .int .i64 lsh] := Ext.blk hx1 (BlkDN (BlkN rfl)); have d1 : w1.cell? ⟨wr.heap.size, 1, none⟩ = some (.int .i64 lp) := b1.cell 1)
  | (go_at_call 210; (with_reducible refine (K2.out _).mono ?_); rintro e w2 ⟨rfl, hx2⟩; have b2 := Ext.blk hx2 b1; have d2 : w2.cell? ⟨wr.heap.size, 2, none⟩ = some (.int .i64 lq) := b2.cell 2)
  | (go_at_call 210; (with_reducible refine (K3.out _).mono ?_); rintro e w3 ⟨rfl, hx3⟩; have b3 := Ext.blk hx3 b2; have d3 : w3.cell? ⟨wr.heap.size, 3, none⟩ = some (.int .i64 lsh) := b3.cell 3; have d32 : w3.cell? ⟨wr.heap.size, 2, none⟩ = some (.int .i64 lq) := b3.cell 2)
  | (go_at_call 210; (with_reducible refine (K4.out _).mono ?_); rintro e w4 ⟨rfl, hx4⟩))
              go_ret
              exact ⟨by rw [lined_bad (k := j + 1 + 1) (by rw [Hs2.out, HL.out]; simp)]; rfl, (by repeat (first | with_reducible exact Below.refl _ _ | with_reducible assumption | with_reducible refine ExtD ?_ | with_reducible refine ExtDN ?_ | with_reducible refine ExtA ?_ | (with_reducible refine ExtR ?_ ?_; (first | omega | (dsimp only; omega) | (simp; done) | (simp; omega))) | (with_reducible refine ExtS ?_ ?_; (first | omega | (dsimp only; omega) | (simp; done) | (simp; omega))) | with_reducible refine Ext.tr ?_ (by with_reducible assumption)))⟩
            | true =>
              cases B3 with
              | false =>
                go_wp2_with (first
  | (go_at_call 210; (with_reducible refine (K1.out _).mono ?_); rintro e w1 ⟨rfl, hx1⟩; have b1 : Blk w1 wr.heap.size 79 #[.int .i64 li, .int .i64 lp, .int .i64 lq, .int .i64 lsh] := Ext.blk hx1 (BlkDN (BlkN rfl)); have d1 : w1.cell? ⟨wr.heap.size, 1, none⟩ = some (.int .i64 lp) := b1.cell 1)
  | (go_at_call 210; (with_reducible refine (K2.out _).mono ?_); rintro e w2 ⟨rfl, hx2⟩; have b2 := Ext.blk hx2 b1; have d2 : w2.cell? ⟨wr.heap.size, 2, none⟩ = some (.int .i64 lq) := b2.cell 2)
  | (go_at_call 210; (with_reducible refine (K3.out _).mono ?_); rintro e w3 ⟨rfl, hx3⟩; have b3 := Ext.blk hx3 b2; have d3 : w3.cell? ⟨wr.heap.size, 3, none⟩ = some (.int .i64 lsh) := b3.cell 3; have d32 : w3.cell? ⟨wr.heap.size, 2, none⟩ = some (.int .i64 lq) := b3.cell 2)
  | (go_at_call 210; (with_reducible refine (K4.out _).mono ?_); rintro e w4 ⟨rfl, hx4⟩))
                go_ret
                exact ⟨by rw [lined_bad (k := j + 1 + 1) (by rw [Hs2.out, HL.out]; simp)]; rfl, (by repeat (first | with_reducible exact Below.refl _ _ | with_reducible assumption | with_reducible refine ExtD ?_ | with_reducible refine ExtDN ?_ | with_reducible refine ExtA ?_ | (with_reducible refine ExtR ?_ ?_; (first | omega | (dsimp only; omega) | (simp; done) | (simp; omega))) | (with_reducible refine ExtS ?_ ?_; (first | omega | (dsimp only; omega) | (simp; done) | (simp; omega))) | with_reducible refine Ext.tr ?_ (by with_reducible assumption)))⟩
              | true =>
                cases B4 with
                | false =>
                  go_wp2_with (first
  | (go_at_call 210; (with_reducible refine (K1.out _).mono ?_); rintro e w1 ⟨rfl, hx1⟩; have b1 : Blk w1 wr.heap.size 79 #[.int .i64 li, .int .i64 lp, .int .i64 lq, .int .i64 lsh] := Ext.blk hx1 (BlkDN (BlkN rfl)); have d1 : w1.cell? ⟨wr.heap.size, 1, none⟩ = some (.int .i64 lp) := b1.cell 1)
  | (go_at_call 210; (with_reducible refine (K2.out _).mono ?_); rintro e w2 ⟨rfl, hx2⟩; have b2 := Ext.blk hx2 b1; have d2 : w2.cell? ⟨wr.heap.size, 2, none⟩ = some (.int .i64 lq) := b2.cell 2)
  | (go_at_call 210; (with_reducible refine (K3.out _).mono ?_); rintro e w3 ⟨rfl, hx3⟩; have b3 := Ext.blk hx3 b2; have d3 : w3.cell? ⟨wr.heap.size, 3, none⟩ = some (.int .i64 lsh) := b3.cell 3; have d32 : w3.cell? ⟨wr.heap.size, 2, none⟩ = some (.int .i64 lq) := b3.cell 2)
  | (go_at_call 210; (with_reducible refine (K4.out _).mono ?_); rintro e w4 ⟨rfl, hx4⟩))
                  go_ret
                  exact ⟨by rw [lined_bad (k := j + 1 + 1) (by rw [Hs2.out, HL.out]; simp)]; rfl, (by repeat (first | with_reducible exact Below.refl _ _ | with_reducible assumption | with_reducible refine ExtD ?_ | with_reducible refine ExtDN ?_ | with_reducible refine ExtA ?_ | (with_reducible refine ExtR ?_ ?_; (first | omega | (dsimp only; omega) | (simp; done) | (simp; omega))) | (with_reducible refine ExtS ?_ ?_; (first | omega | (dsimp only; omega) | (simp; done) | (simp; omega))) | with_reducible refine Ext.tr ?_ (by with_reducible assumption)))⟩
                | true =>
                  go_wp2_with (first
  | (go_at_call 210; (with_reducible refine (K1.out _).mono ?_); rintro e w1 ⟨rfl, hx1⟩; have b1 : Blk w1 wr.heap.size 79 #[.int .i64 li, .int .i64 lp, .int .i64 lq, .int .i64 lsh] := Ext.blk hx1 (BlkDN (BlkN rfl)); have d1 : w1.cell? ⟨wr.heap.size, 1, none⟩ = some (.int .i64 lp) := b1.cell 1)
  | (go_at_call 210; (with_reducible refine (K2.out _).mono ?_); rintro e w2 ⟨rfl, hx2⟩; have b2 := Ext.blk hx2 b1; have d2 : w2.cell? ⟨wr.heap.size, 2, none⟩ = some (.int .i64 lq) := b2.cell 2)
  | (go_at_call 210; (with_reducible refine (K3.out _).mono ?_); rintro e w3 ⟨rfl, hx3⟩; have b3 := Ext.blk hx3 b2; have d3 : w3.cell? ⟨wr.heap.size, 3, none⟩ = some (.int .i64 lsh) := b3.cell 3; have d32 : w3.cell? ⟨wr.heap.size, 2, none⟩ = some (.int .i64 lq) := b3.cell 2)
  | (go_at_call 210; (with_reducible refine (K4.out _).mono ?_); rintro e w4 ⟨rfl, hx4⟩))
                  refine And.intro ?_ ?_
                  exact ⟨j + 1 + 1, by go_num, by have := HN.out; omega, by rw [Hs2.out, HL.out]; first | (have := wi_iff.1 HB1.out.symm; simp; omega) | (have := Hp.out; simp; omega), (by repeat (first | with_reducible exact Below.refl _ _ | with_reducible assumption | with_reducible refine ExtD ?_ | with_reducible refine ExtDN ?_ | with_reducible refine ExtA ?_ | (with_reducible refine ExtR ?_ ?_; (first | omega | (dsimp only; omega) | (simp; done) | (simp; omega))) | (with_reducible refine ExtS ?_ ?_; (first | omega | (dsimp only; omega) | (simp; done) | (simp; omega))) | with_reducible refine Ext.tr ?_ (by with_reducible assumption)))⟩
                  simp [intOf]; omega
    · obtain rfl : k = n := by omega
      have htk : ls.take k = ls := List.take_of_length_le (by have := HN.out; omega)
      rw [htk] at Hrs
      go_wp2_with fail
      go_ret
      exact ⟨by rw [Hv.out, Hrs.out]; rfl, (by repeat (first | with_reducible exact Below.refl _ _ | with_reducible assumption | with_reducible refine ExtD ?_ | with_reducible refine ExtDN ?_ | with_reducible refine ExtA ?_ | (with_reducible refine ExtR ?_ ?_; (first | omega | (dsimp only; omega) | (simp; done) | (simp; omega))) | (with_reducible refine ExtS ?_ ?_; (first | omega | (dsimp only; omega) | (simp; done) | (simp; omega))) | with_reducible refine Ext.tr ?_ (by with_reducible assumption)))⟩
end Go.Proofs.YtjajbbgebblalaaGreatDoor

namespace Go.Proofs.YtjajbbgebblalaaGreatDoor
open Go.RowKit
set_option linter.unusedVariables false
set_option linter.unusedSimpArgs false
theorem el_ln : Elem Tryz.prog 79 (.agg (lncells ⟨0, 0, 0, 0⟩)) 4 32 := ⟨by kernel_rfl, rfl, by decide⟩
/-- Lines of the call's own. -/
def OwnLs (w : World) (base : Nat) (A : Option Addr) (ls : List Ln) (c : Nat) : Prop := w.ownsRow base 79 4 (.slice A ls.length c) ls.length (lnCells ls)
theorem OwnLs.rd {w : World} {base : Nat} {A : Option Addr} {c : Nat} {ls : List Ln} (h : OwnLs w base A ls c) : LsRd w A ls := RdN.of_own h
theorem lnCells_zero : lnCells [] = [] := rfl
/-- A row that has cells laid over it from a place on. -/
def over (cur : Array Value) (o : Nat) (vs : List Value) (cur' : Array Value) : Prop := cur'.size = cur.size ∧ ∀ j, cur'[j]? = if o ≤ j ∧ j < o + vs.length then vs[j - o]? else cur[j]?
theorem setCells_blk {g : Nat} {t : TypeId} : ∀ (vs : List Value) (o : Nat) (w : World) (cur : Array Value), Blk w g t cur → o + vs.length ≤ cur.size → ∃ cur', Blk (w.setCells g o vs) g t cur' ∧ over cur o vs cur'
  | [], o, w, cur, h, _ => ⟨cur, h, rfl, fun j => by rw [if_neg (by rw [List.length_nil]; omega)]⟩
  | v :: r, o, w, cur, h, hl => by
    simp only [List.length_cons] at hl
    obtain ⟨cur', h1, h2, h3⟩ := setCells_blk r (o + 1) (w.setCell ⟨g, o, none⟩ v) (cur.setIfInBounds o v) (BlkS h) (by simp; omega)
    refine ⟨cur', h1, by rw [h2]; simp, fun j => ?_⟩
    rw [h3 j]
    by_cases hj : o + 1 ≤ j ∧ j < o + 1 + r.length
    · rw [if_pos hj, if_pos (by rw [List.length_cons]; omega), show j - o = (j - (o + 1)) + 1 by omega, List.getElem?_cons_succ]
    · rw [if_neg hj]
      by_cases hjo : j = o
      · subst hjo
        rw [if_pos (by rw [List.length_cons]; omega), Nat.sub_self, List.getElem?_cons_zero, Array.getElem?_setIfInBounds]
        rw [if_pos rfl, if_pos (by omega)]
      · rw [if_neg (by rw [List.length_cons]; omega), Array.getElem?_setIfInBounds, if_neg (by omega)]
section
variable {P : Program} {w : World}
theorem run_copyN (dT ty elem : TypeId) (b o dLen dCap : Nat) (a : Addr) (sLen sCap : Nat) (cs : List Value) (size k : Nat)
    (hu : P.underlying dT = some (.slice elem)) (hs : (P.info? elem).map (·.size) = some size) (hk : k = Nat.min sLen dLen) (hn : cs.length = k * size)
    (hsrc : ∀ j v, cs[j]? = some v → w.cell? (a.add j) = some v) (cur : Array Value) (t : TypeId) (hb : Blk w b t cur) (hfit : o + cs.length ≤ cur.size) (h1 : ∀ v ∈ cs, v.oneCell' = true) :
    (Builtin.copy_ #[dT, dT] ty #[.slice (some ⟨b, o, none⟩) dLen dCap, .slice (some a) sLen sCap]).run P w = .ok (goInt k) (w.setCells b o cs) := by
  have hl := run_loadCells_list (P := P) w a cs hsrc
  have hst := run_storeCells_cells (P := P) b o cs 0 w (fun j hj => by rw [hb.cell, Array.getElem?_eq_getElem (by omega)]; rfl) (fun j _ => hb.frozen _) h1
  cases hq : P.info? elem with
  | none => simp [hq] at hs
  | some i =>
    have hi : i.size = size := by simpa [hq] using hs
    subst hk
    simp [Builtin.copy_, run_underlying hu, Builtin.lenOf, Builtin.firstCells, sizeOf, typeInfo, hq, hi, ← hn, hl, hst]
theorem run_clearN (t ty elem : TypeId) (z : Value) (zs : Array Value) (size : Nat) (hu : P.underlying t = some (.slice elem)) (he : (P.info? elem).map (fun i => (i.zero, i.size)) = some (some z, size)) (hz : z.cells = zs)
    (b o n c : Nat) (h0 : 0 < n) (cs : List Value) (hcs : (Builtin.zeroCells zs n).toList = cs) (cur : Array Value) (tb : TypeId) (hb : Blk w b tb cur) (hfit : o + cs.length ≤ cur.size) (h1 : ∀ v ∈ cs, v.oneCell' = true) :
    (Builtin.clear_ #[t] ty #[.slice (some ⟨b, o, none⟩) n c]).run P w = .ok (.tuple #[]) (w.setCells b o cs) := by
  have hst := run_storeCells_cells (P := P) b o cs 0 w (fun j hj => by rw [hb.cell, Array.getElem?_eq_getElem (by omega)]; rfl) (fun j _ => hb.frozen _) h1
  subst hcs hz
  obtain ⟨m, rfl⟩ : ∃ m, n = m + 1 := ⟨n - 1, by omega⟩
  cases hq : P.info? elem with
  | none => simp [hq] at he
  | some i =>
    simp [hq] at he
    simp [Builtin.clear_, run_underlying hu, zeroValue, typeInfo, hq, he.1, hst]
theorem wpL_builtin {ops : Array Oper} {rest : List Oper} {o : Oper} {a : Act} {Q : Exit → Act → World → Prop} (hgd : o.guard = none) (d : Operand) (t : TypeId)
    (ho : o.op = .call { callee := .builtin .clear, args := #[d], argTypes := #[t] }) (v : Value) (hd : a.eval d = v) {v' : Value} {w' : World}
    (hr : (Builtin.clear_ #[t] o.type #[v]).run P w = .ok v' w') (h : wpList P ops Q rest (a.put o.dst v') w') : wpList P ops Q (o :: rest) a w := by
  refine wpList_plain hgd fun K hK => ?_
  unfold Oper.wp execOp
  simp only [ho, resolve, invoke, builtin, Sem.run_bind, Sem.run_pure, Result.andThen_ok, List.map_toArray, List.map_cons, List.map_nil, hd, hr]
  exact hK _ _ h
end
def NewLs (W : World) (ls : List Ln) (e : Ending) (w' : World) : Prop := ∃ A c, e = .returned (.slice A ls.length c) ∧ Ext W w' ∧ OwnLs w' W.heap.size A ls c
theorem own_noLn (w : World) : (w.alloc (.cells #[] 79)).ownsRow w.heap.size 79 4 (.slice (some ⟨w.heap.size, 0, none⟩) 0 0) 0 [] := own_new w w.heap.size #[] _ 0 (Nat.le_refl _) (by decide) rfl
set_option maxRecDepth 100000 in
set_option maxHeartbeats 400000 in
theorem lclone_any (A : Option Addr) (ls : List Ln) (c : Nat) (w : World) (hr : LsRd w A ls) (hn : ls.length ≤ 4398046510976) :
    Calls Tryz.prog 91 #[.slice A ls.length c] w (NewLs w ls) := by
  rcases A with _ | ad
  · have hn0 : ls.length = 0 := by
      rcases Nat.eq_zero_or_pos ls.length with h | h
      · exact h
      · obtain ⟨b, o, h2, _⟩ := hr.2 h; cases h2
    have hl : ls = [] := List.eq_nil_of_length_eq_zero (by omega)
    subst hl
    clear hn0 hr
    go_enter Tryz.func91, Tryz.ntmps91
    have hq := fun (W : World) (n c : Nat) => Lib.run_eql_slice_nil (P := Tryz.prog) W 75 79 none n c 0 0 Tryz.underlying75
    go_wp2_with fail
    go_ret
    exact ⟨none, 0, rfl, (by repeat (first | with_reducible exact Below.refl _ _ | with_reducible assumption | with_reducible refine ExtD ?_ | with_reducible refine ExtDN ?_ | with_reducible refine ExtA ?_ | (with_reducible refine ExtR ?_ ?_; (first | omega | (dsimp only; omega) | (simp; done) | (simp; omega))) | (with_reducible refine ExtS ?_ ?_; (first | omega | (dsimp only; omega) | (simp; done) | (simp; omega))) | with_reducible refine Ext.tr ?_ (by with_reducible assumption))), World.ownsRow_nil _ _ _ _⟩
  · have hq := fun (W : World) (n c : Nat) => Lib.run_eql_slice_nil (P := Tryz.prog) W 75 79 (some ad) n c 0 0 Tryz.underlying75
    have Hn := Lib.hid hn
    have Hr : Hid (RdN w 4 (some ad) ls.length (lnCells ls)) := Lib.hid hr
    have Ho := Lib.hid (lnCells_one ls)
    go_enter Tryz.func91, Tryz.ntmps91
    go_wp2_with (at_builtin; go_must (refine wpL_copy rfl (.tmp 5) (.tmp 6) 75 rfl 79 _ 4 32 Tryz.underlying75 el_ln _ _ _ _ rfl rfl Hr.out Ho.out (by have := Hn.out; omega) (by have := Hn.out; simp only [maxLen]; omega) ?_); intro A2 c2 w2 hx2 hown2)
    go_ret
    exact ⟨A2, c2, rfl, hx2, hown2⟩
end Go.Proofs.YtjajbbgebblalaaGreatDoor

namespace Go.Proofs.YtjajbbgebblalaaGreatDoor
open Go.RowKit
set_option linter.unusedVariables false
set_option linter.unusedSimpArgs false
def InsPost (w : World) (base : Nat) (A : Option Addr) (n c : Nat) (xs : List Ln) (e : Ending) (w' : World) : Prop :=
  ∃ A' c', e = .returned (.slice A' xs.length c') ∧ w.grownBy w' (Value.slice A n c).ownBlock ∧ OwnLs w' base A' xs c'
theorem rd_one {w : World} {vb : Nat} {l : Ln} (hv : Blk w vb 79 (lncells l)) : RdN w 4 (some ⟨vb, 0, none⟩) 1 (lncells l).toList :=
  ⟨rfl, fun _ => ⟨vb, 0, rfl, fun j u hu => by rw [Nat.zero_add, hv.cell]; simpa using hu⟩⟩
theorem own_cap {w : World} {base : Nat} {A : Option Addr} {c : Nat} {ls : List Ln} (h : OwnLs w base A ls c) : ls.length ≤ c ∧ c ≤ 9223372036854775807 := by
  rcases h.2 with ⟨h1, h2⟩ | ⟨g, cap, cur, h1, h2, h3, h4, h5, _⟩
  · injection h1 with h3 h4 h5
    omega
  · injection h1 with h6 h7 h8
    simp only [maxLen] at h5
    omega
/-- The form of a row that is not empty. -/
theorem own_form {w : World} {base : Nat} {A : Option Addr} {c : Nat} {ls : List Ln} (h : OwnLs w base A ls c) (h0 : 0 < ls.length) : ∃ g cur, A = some ⟨g, 0, none⟩ ∧ base ≤ g ∧ Blk w g 79 cur ∧ cur.size = c * 4 ∧ ∀ j, j < ls.length * 4 → cur[j]? = (lnCells ls)[j]? := by
  rcases h.2 with ⟨h1, h2⟩ | ⟨g, cap, cur, h1, h2, h3, h4, h5, h6, h7⟩
  · omega
  · injection h1 with h8 h9 h10
    subst h8 h10
    refine ⟨g, cur, rfl, h2, h3, h6, fun j hj => ?_⟩
    rw [← h7, List.getElem?_take, if_pos hj, Array.getElem?_toList]
theorem lnCells_take (ls : List Ln) (k : Nat) : lnCells (ls.take k) = (lnCells ls).take (k * 4) := by
  induction ls generalizing k with
  | nil => simp [lnCells]
  | cons l r ih =>
    cases k with
    | zero => simp [lnCells]
    | succ k =>
      rw [List.take_succ_cons]
      show (lncells l).toList ++ lnCells (r.take k) = ((lncells l).toList ++ lnCells r).take ((k + 1) * 4)
      rw [ih, show (k + 1) * 4 = (lncells l).toList.length + k * 4 by simp [lncells]; omega, List.take_length_add_append]
theorem lnCells_drop (ls : List Ln) (k : Nat) : lnCells (ls.drop k) = (lnCells ls).drop (k * 4) := by
  induction ls generalizing k with
  | nil => simp [lnCells]
  | cons l r ih =>
    cases k with
    | zero => simp [lnCells]
    | succ k =>
      rw [List.drop_succ_cons]
      show lnCells (r.drop k) = ((lncells l).toList ++ lnCells r).drop ((k + 1) * 4)
      rw [ih, show (k + 1) * 4 = (lncells l).toList.length + k * 4 by simp [lncells]; omega, List.drop_length_add_append]
/-- The cells of a row into which a line has been laid. -/
theorem ins_cells {X V : List Value} {a : Nat} {cur : Array Value} (ha : a ≤ X.length) (hV : V.length = 4) (h1 : ∀ j, j < a → cur[j]? = X[j]?) (h2 : ∀ j, j < 4 → cur[a + j]? = V[j]?) (h3 : ∀ j, j < X.length - a → cur[a + 4 + j]? = X[a + j]?) :
    cur.toList.take (X.length + 4) = X.take a ++ V ++ X.drop a := by
  apply List.ext_getElem?
  intro j
  have hla : (X.take a).length = a := by rw [List.length_take]; omega
  rw [List.getElem?_take, Array.getElem?_toList]
  rcases Nat.lt_or_ge j a with hj | hj
  · rw [if_pos (by omega), h1 j hj, List.append_assoc, List.getElem?_append_left (by omega), List.getElem?_take, if_pos hj]
  · rcases Nat.lt_or_ge j (a + 4) with hj2 | hj2
    · obtain ⟨i, rfl⟩ : ∃ i, j = a + i := ⟨j - a, by omega⟩
      rw [if_pos (by omega), h2 i (by omega), List.append_assoc, List.getElem?_append_right (by omega), hla, List.getElem?_append_left (by omega)]
      congr 1; omega
    · obtain ⟨i, rfl⟩ : ∃ i, j = a + 4 + i := ⟨j - (a + 4), by omega⟩
      rw [List.getElem?_append_right (by rw [List.length_append]; omega), List.length_append, hla, hV, List.getElem?_drop, show a + (a + 4 + i - (a + 4)) = a + i by omega]
      by_cases hi : i < X.length - a
      · rw [if_pos (by omega), h3 i hi]
      · rw [if_neg (by omega), List.getElem?_eq_none (by omega)]
set_option maxRecDepth 100000 in
set_option maxHeartbeats 2000000 in
theorem insert_end (ls : List Ln) (l : Ln) (A : Option Addr) (c base : Nat) (w : World) (hown : OwnLs w base A ls c) (hlen : ls.length ≤ 16) (vb : Nat) (hv : Blk w vb 79 (lncells l)) (hbase : base ≤ w.heap.size) :
    Calls Tryz.prog 222 #[.slice A ls.length c, .int .i64 (ls.length : Nat), .slice (some ⟨vb, 0, none⟩) 1 1] w (InsPost w base A ls.length c (ls ++ [l])) := by
  have Hown : Hid (w.ownsRow base 79 4 (.slice A ls.length c) ls.length (lnCells ls)) := Lib.hid hown
  have Hr := Lib.hid (rd_one hv)
  have H1 := Lib.hid (ln_one l)
  have Hc : Hid (lnCells ls ++ (lncells l).toList = lnCells (ls ++ [l])) := Lib.hid (by rw [lnCells_app]; simp [lnCells])
  have hnc := own_cap hown
  have HN : Hid ((ls ++ [l]).length = ls.length + 1) := Lib.hid (by simp)
  clear hown hv
  generalize ls.length = n at *
  have h2 : (n : Int) ≤ (c : Int) := by omega
  go_enter Tryz.func222, Tryz.ntmps222
  go_wp2_with (at_builtin; go_must (refine wpL_append rfl (.tmp 23) (.tmp 24) 75 rfl base 79 _ 4 32 Tryz.underlying75 el_ln (.slice A n c) _ _ rfl Hown.out _ _ _ _ rfl Hr.out H1.out _ _ rfl Hc.out (by simp only [maxLen]; omega) (by omega) hbase ?_); intro v' w' hown' hg' hb')
  all_goals
    go_ret
    obtain ⟨A', c', rfl⟩ := own_slice hown'
    refine ⟨A', c', by rw [HN.out]; rfl, by first | exact hg' | (rename_i h; rw [h] at hg'; exact hg'), ?_⟩
    unfold OwnLs
    rw [HN.out]
    exact hown'
end Go.Proofs.YtjajbbgebblalaaGreatDoor

namespace Go.Proofs.YtjajbbgebblalaaGreatDoor
open Go.RowKit
set_option linter.unusedVariables false
set_option linter.unusedSimpArgs false
theorem sz_ln : (Tryz.prog.info? 79).map (·.size) = some 4 := by kernel_rfl
theorem blk_shape {w : World} {g : Nat} {t : TypeId} {cs : Array Value} (h : Blk w g t cs) : w.shape? g = some (t, cs.size) := by
  unfold World.shape?; rw [h]
theorem lnCells_one1 (l : Ln) : lnCells [l] = (lncells l).toList := by simp [lnCells]
theorem blk_setOut {g b : Nat} {t : TypeId} {cs : Array Value} (hne : g ≠ b) : ∀ (vs : List Value) (o : Nat) (w : World), Blk w g t cs → Blk (w.setCells b o vs) g t cs
  | [], _, _, h => h
  | v :: r, o, w, h => blk_setOut hne r (o + 1) _ (BlkF (p := ⟨b, o, none⟩) hne h)
theorem grown_setCells {w : World} {b : Nat} : ∀ (vs : List Value) (o : Nat) (w' : World), w.grownBy w' (some b) → w.grownBy (w'.setCells b o vs) (some b)
  | [], _, _, h => h
  | v :: r, o, w', h => grown_setCells r (o + 1) _ (grown_set h v)
theorem own_of_cells {w : World} {base g c : Nat} {ls : List Ln} {cur : Array Value} (hg : base ≤ g) (hb : Blk w g 79 cur) (hc : ls.length ≤ c) (hm : c ≤ maxLen) (hs : cur.size = c * 4) (h : cur.toList.take (ls.length * 4) = lnCells ls) : OwnLs w base (some ⟨g, 0, none⟩) ls c :=
  ⟨lnCells_len ls, .inr ⟨g, c, cur, rfl, hg, hb, hc, hm, hs, h⟩⟩
/-- A row with cells laid over it, as a function. -/
def ov : Array Value → Nat → List Value → Array Value
  | cur, _, [] => cur
  | cur, o, v :: r => ov (cur.setIfInBounds o v) (o + 1) r
theorem BlkC {g : Nat} {t : TypeId} : ∀ {vs : List Value} {o : Nat} {w : World} {cur : Array Value}, Blk w g t cur → Blk (w.setCells g o vs) g t (ov cur o vs)
  | [], _, _, _, h => h
  | v :: r, o, w, cur, h => BlkC (vs := r) (o := o + 1) (w := w.setCell ⟨g, o, none⟩ v) (BlkS h)
theorem over_ov : ∀ (vs : List Value) (o : Nat) (cur : Array Value), o + vs.length ≤ cur.size → over cur o vs (ov cur o vs)
  | [], o, cur, _ => ⟨rfl, fun j => by rw [if_neg (by rw [List.length_nil]; omega)]; rfl⟩
  | v :: r, o, cur, hl => by
    simp only [List.length_cons] at hl
    obtain ⟨h2, h3⟩ := over_ov r (o + 1) (cur.setIfInBounds o v) (by simp; omega)
    refine ⟨by rw [ov, h2]; simp, fun j => ?_⟩
    rw [ov, h3 j]
    by_cases hj : o + 1 ≤ j ∧ j < o + 1 + r.length
    · rw [if_pos hj, if_pos (by rw [List.length_cons]; omega), show j - o = (j - (o + 1)) + 1 by omega, List.getElem?_cons_succ]
    · rw [if_neg hj]
      by_cases hjo : j = o
      · subst hjo
        rw [if_pos (by rw [List.length_cons]; omega), Nat.sub_self, List.getElem?_cons_zero, Array.getElem?_setIfInBounds]
        rw [if_pos rfl, if_pos (by omega)]
      · rw [if_neg (by rw [List.length_cons]; omega), Array.getElem?_setIfInBounds, if_neg (by omega)]
/-- Over a row: a line at its place, the rest one place on. -/
theorem ins_over {ls : List Ln} {l : Ln} {k : Nat} {cur cur1 cur2 : Array Value} (hk : k < ls.length) (h0 : ∀ j, j < k * 4 → cur[j]? = (lnCells ls)[j]?)
    (h1 : over cur ((k + 1) * 4) ((lnCells ls).drop (k * 4)) cur1) (h2 : over cur1 (k * 4) (lncells l).toList cur2) : cur2.toList.take ((ls.take k ++ l :: ls.drop k).length * 4) = lnCells (ls.take k ++ l :: ls.drop k) := by
  have hX := lnCells_len ls
  have hV : (lncells l).toList.length = 4 := rfl
  have hd : ((lnCells ls).drop (k * 4)).length = ls.length * 4 - k * 4 := by rw [List.length_drop, hX]
  have e1 : (ls.take k ++ l :: ls.drop k).length * 4 = (lnCells ls).length + 4 := by rw [hX]; simp; omega
  have e2 : lnCells (ls.take k ++ l :: ls.drop k) = (lnCells ls).take (k * 4) ++ (lncells l).toList ++ (lnCells ls).drop (k * 4) := by
    rw [show ls.take k ++ l :: ls.drop k = ls.take k ++ ([l] ++ ls.drop k) by simp, lnCells_app, lnCells_app, lnCells_take, lnCells_drop, lnCells_one1, List.append_assoc]
  rw [e1, e2]
  refine ins_cells (by omega) hV (fun j hj => ?_) (fun j hj => ?_) (fun j hj => ?_)
  · rw [h2.2, if_neg (by omega), h1.2, if_neg (by omega), h0 j hj]
  · rw [h2.2, if_pos (by rw [hV]; omega), show k * 4 + j - k * 4 = j by omega]
  · rw [h2.2, if_neg (by rw [hV]; omega), h1.2, if_pos (by rw [hd]; omega), List.getElem?_drop]
    congr 1; omega
theorem over_rev {ls : List Ln} {l : Ln} {k : Nat} {cur cur1 cur2 : Array Value} (hk : k < ls.length) (h0 : ∀ j, j < k * 4 → cur[j]? = (lnCells ls)[j]?)
    (h2 : over cur (k * 4) (lncells l).toList cur1) (h1 : over cur1 ((k + 1) * 4) ((lnCells ls).drop (k * 4)) cur2) : cur2.toList.take ((ls.take k ++ l :: ls.drop k).length * 4) = lnCells (ls.take k ++ l :: ls.drop k) := by
  have hX := lnCells_len ls
  have hV : (lncells l).toList.length = 4 := rfl
  have hd : ((lnCells ls).drop (k * 4)).length = ls.length * 4 - k * 4 := by rw [List.length_drop, hX]
  have e1 : (ls.take k ++ l :: ls.drop k).length * 4 = (lnCells ls).length + 4 := by rw [hX]; simp; omega
  have e2 : lnCells (ls.take k ++ l :: ls.drop k) = (lnCells ls).take (k * 4) ++ (lncells l).toList ++ (lnCells ls).drop (k * 4) := by
    rw [show ls.take k ++ l :: ls.drop k = ls.take k ++ ([l] ++ ls.drop k) by simp, lnCells_app, lnCells_app, lnCells_take, lnCells_drop, lnCells_one1, List.append_assoc]
  rw [e1, e2]
  refine ins_cells (by omega) hV (fun j hj => ?_) (fun j hj => ?_) (fun j hj => ?_)
  · rw [h1.2, if_neg (by omega), h2.2, if_neg (by omega), h0 j hj]
  · rw [h1.2, if_neg (by omega), h2.2, if_pos (by rw [hV]; omega), show k * 4 + j - k * 4 = j by omega]
  · rw [h1.2, if_pos (by rw [hd]; omega), List.getElem?_drop]
    congr 1; omega
set_option maxRecDepth 100000 in
set_option maxHeartbeats 4000000 in
theorem insert_room (ls : List Ln) (l : Ln) (k : Nat) (A : Option Addr) (c base : Nat) (w : World) (hown : OwnLs w base A ls c) (hlen : ls.length ≤ 16) (hk : k < ls.length) (hroom : ls.length + 1 ≤ c) (vb : Nat) (hv : Blk w vb 79 (lncells l)) (hvb : some vb ≠ (Value.slice A ls.length c).ownBlock) :
    Calls Tryz.prog 222 #[.slice A ls.length c, .int .i64 (k : Nat), .slice (some ⟨vb, 0, none⟩) 1 1] w (InsPost w base A ls.length c (ls.take k ++ l :: ls.drop k)) := by
  have hnc := own_cap hown
  obtain ⟨g, cur, rfl, hg, hb, hs, hcur⟩ := own_form hown (by omega)
  have hne : vb ≠ g := fun h => hvb (by rw [h]; rfl)
  have hX := lnCells_len ls
  have hdl : ((lnCells ls).drop (k * 4)).length = (ls.length - k) * 4 := by rw [List.length_drop, hX]; omega
  have hov : ∀ lb cb, (callFunc 245 #[.slice (some ⟨vb, 0, none⟩) 1 1, .slice (some ⟨g, (k + 1) * 4, none⟩) lb cb]).run Tryz.prog w = .ok (.value (.bool false)) w := fun lb cb => by
    rw [run_callFunc_extern Tryz.func245 (by kernel_rfl) (by kernel_rfl) (by kernel_rfl) (e := Extern.SlicesOverlaps.overlaps #[75, 75] #[4]) (by kernel_rfl),
      Lib.run_overlaps_apart w 75 4 79 Tryz.underlying75 4 (fun w => by kernel_rfl) ⟨vb, 0, none⟩ ⟨g, (k + 1) * 4, none⟩ 1 1 lb cb hne _ _ _ _ (blk_shape hv) (blk_shape hb) (by omega) (hv.frozen _) (hv.frozen _)]
    rfl
  have hcp1 : ∀ ty dc sc, (Builtin.copy_ #[75, 75] ty #[.slice (some ⟨g, (k + 1) * 4, none⟩) (ls.length - k) dc, .slice (some ⟨g, k * 4, none⟩) (ls.length + 1 - k) sc]).run Tryz.prog w.drew = .ok (goInt ((ls.length - k : Nat))) (w.drew.setCells g ((k + 1) * 4) ((lnCells ls).drop (k * 4))) := fun ty dc sc =>
    run_copyN 75 ty 79 g ((k + 1) * 4) (ls.length - k) dc ⟨g, k * 4, none⟩ (ls.length + 1 - k) sc ((lnCells ls).drop (k * 4)) 4 (ls.length - k) Tryz.underlying75 sz_ln (by simp only [Nat.min_def]; split <;> omega) hdl
      (fun j v hj => by
        rw [Addr.add_lit]
        show w.cell? _ = _
        rw [hb.cell, hcur _ (by have := (List.getElem?_eq_some_iff.1 hj).1; rw [hdl] at this; omega)]
        rwa [List.getElem?_drop] at hj)
      cur 79 (BlkD hb) (by rw [hdl, hs]; omega) (fun v hv => lnCells_one ls v (List.mem_of_mem_drop hv))
  obtain ⟨cur1, hb1, ho1⟩ := setCells_blk ((lnCells ls).drop (k * 4)) ((k + 1) * 4) w.drew cur (BlkD hb) (by rw [hdl, hs]; omega)
  have hg1 := grown_setCells (w := w) ((lnCells ls).drop (k * 4)) ((k + 1) * 4) w.drew (GrD (World.grownBy.refl w (some g)))
  have hv1 := blk_setOut hne ((lnCells ls).drop (k * 4)) ((k + 1) * 4) w.drew (BlkD hv)
  obtain ⟨W1, hW1⟩ : ∃ W1, W1 = w.drew.setCells g ((k + 1) * 4) ((lnCells ls).drop (k * 4)) := ⟨_, rfl⟩
  rw [← hW1] at hcp1 hb1 hg1 hv1
  clear hW1
  have hs1 : cur1.size = c * 4 := by rw [ho1.1, hs]
  have hcp2 : ∀ ty dc, (Builtin.copy_ #[75, 75] ty #[.slice (some ⟨g, k * 4, none⟩) (ls.length + 1 - k) dc, .slice (some ⟨vb, 0, none⟩) 1 1]).run Tryz.prog W1 = .ok (goInt 1) (W1.setCells g (k * 4) (lncells l).toList) := fun ty dc =>
    run_copyN 75 ty 79 g (k * 4) (ls.length + 1 - k) dc ⟨vb, 0, none⟩ 1 1 (lncells l).toList 4 1 Tryz.underlying75 sz_ln (by simp only [Nat.min_def]; split <;> omega) rfl
      (fun j v hj => by
        rw [Addr.add_lit, Nat.zero_add, hv1.cell]
        simpa using hj)
      cur1 79 hb1 (by rw [hs1]; show k * 4 + 4 ≤ _; omega) (ln_one l)
  obtain ⟨cur2, hb2, ho2⟩ := setCells_blk (lncells l).toList (k * 4) W1 cur1 hb1 (by rw [hs1]; show k * 4 + 4 ≤ _; omega)
  have HG : Hid (w.grownBy (W1.setCells g (k * 4) (lncells l).toList) (some g)) := Lib.hid (grown_setCells (lncells l).toList (k * 4) W1 hg1)
  have HL : Hid ((ls.take k ++ l :: ls.drop k).length = ls.length + 1) := Lib.hid (by simp; omega)
  have HO : Hid (OwnLs (W1.setCells g (k * 4) (lncells l).toList) base (some ⟨g, 0, none⟩) (ls.take k ++ l :: ls.drop k) c) := Lib.hid (own_of_cells hg hb2 (by rw [HL.out]; exact hroom) (by simp only [maxLen]; omega) (by rw [ho2.1, hs1]) (ins_over hk (fun j hj => hcur j (by omega)) ho1 ho2))
  have hw1 : IntKind.i64.wrap ((k : Int) + 1) = (k : Int) + 1 := by rw [IntKind.wrap_i64]; omega
  have hz2 : ¬ ((k : Int) = (ls.length : Int)) := by omega
  have hb3 : (k : Int) ≤ (ls.length : Int) := by omega
  have hb4 : ¬ (c = k) := by omega
  have hb5 : ¬ (c = k + 1) := by omega
  have hb6 : (0 : Int) ≤ (k : Int) + 1 := by omega
  have hb7 : ((k : Int) + 1).toNat = k + 1 := by omega
  have hk2 : k ≤ ls.length := by omega
  have hb8 : (k : Int) ≤ (ls.length : Int) + 1 := by omega
  have mixed : Tryz.prog.follows Departure.mixedOrders = true := by kernel_rfl
  clear hown hb hcur hX hdl hb1 hg1 hv1 ho1 ho2 hb2 hv hvb hs1 hs
  generalize (lnCells ls).drop (k * 4) = DR at *
  generalize ls.length = n at *
  go_enter Tryz.func222, Tryz.ntmps222
  go_wp2_with (simp only [hov])
  go_region_law_o (refine step_copy_runI rfl (.tmp 73) (.tmp 76) 75 75 rfl _ _ (by simp [Act.eval, Act.put]) (by simp [Act.eval, Act.put]) (hcp1 _ _ _) ?_)
  go_wp2_with (at_builtin; refine wpList_copy_runI _ rfl _ _ 75 75 rfl _ _ rfl rfl (hcp2 _ _) ?_)
  go_ret
  exact ⟨some ⟨g, 0, none⟩, c, by rw [HL.out]; rfl, HG.out, HO.out⟩
/-- The block of lines is not g. -/
def NotOwn (A : Option Addr) (g : Nat) : Prop := ∀ n c, (Value.slice A n c).ownBlock ≠ some g
theorem own_apart {w : World} {base g c : Nat} {A : Option Addr} {ls : List Ln} {cs : Array Value} (h : OwnLs w base A ls c) (hb : Blk w g 77 cs) : NotOwn A g := by
  intro n c2
  rcases h.2 with ⟨h1, h2⟩ | ⟨g', cap, cur, h1, h2, h3, _⟩
  · injection h1 with h3 h4 h5
    subst h3
    intro hc; cases hc
  · injection h1 with h5 h6 h7
    subst h5
    intro he
    obtain rfl : g' = g := Option.some.inj he
    have h4 : w.heap[g']? = some (.cells cur 79) := h3
    have h5 : w.heap[g']? = some (.cells cs 77) := hb
    rw [h5] at h4
    cases h4
theorem OwnSt {w : World} {base g c i : Nat} {u : Value} {A : Option Addr} {ls : List Ln} (hne : NotOwn A g) (h : OwnLs w base A ls c) : OwnLs (w.setCell ⟨g, i, none⟩ u) base A ls c :=
  World.ownsRow.kept h (grown_set (World.grownBy.refl w (some g)) u) (.inr (hne _ _))
theorem OwnA {w : World} {base c : Nat} {o : Obj} {A : Option Addr} {ls : List Ln} (h : OwnLs w base A ls c) : OwnLs (w.alloc o) base A ls c := World.ownsRow.alloc h o
theorem OwnD {w : World} {base c : Nat} {A : Option Addr} {ls : List Ln} (h : OwnLs w base A ls c) : OwnLs w.drew base A ls c := h
theorem OwnDN {w : World} {base c n : Nat} {A : Option Addr} {ls : List Ln} (h : OwnLs w base A ls c) : OwnLs (w.drewN n) base A ls c := h
theorem own_less {w : World} {b1 b2 c : Nat} {A : Option Addr} {ls : List Ln} (h : OwnLs w b1 A ls c) (hb : b2 ≤ b1) : OwnLs w b2 A ls c := by
  refine ⟨h.1, ?_⟩
  rcases h.2 with h1 | ⟨g, cap, cur, h1, h2, h3⟩
  · exact .inl h1
  · exact .inr ⟨g, cap, cur, h1, Nat.le_trans hb h2, h3⟩
theorem st_size' (o s p u t : Int) (A : Option Addr) (n c : Nat) (pd rf ev rd sm : Int) (who : ByteArray) : (#[.int .i64 o, .int .i64 s, .int .i64 p, .int .i64 u, .int .i64 t, .slice A n c, .int .i64 pd, .int .i64 rf, .int .i64 ev, .int .i64 rd, .int .i64 sm, .string who] : Array Value).size = 12 := rfl
theorem st_one' (o s p u t : Int) (A : Option Addr) (n c : Nat) (pd rf ev rd sm : Int) (who : ByteArray) : ∀ v ∈ (#[.int .i64 o, .int .i64 s, .int .i64 p, .int .i64 u, .int .i64 t, .slice A n c, .int .i64 pd, .int .i64 rf, .int .i64 ev, .int .i64 rd, .int .i64 sm, .string who] : Array Value).toList, v.oneCell' = true := by
  intro v hv; simp at hv; rcases hv with rfl | rfl | rfl | rfl | rfl | rfl | rfl | rfl | rfl | rfl | rfl | rfl <;> rfl
theorem GrRow {a w : World} {g : Nat} {ds : Array Value} (h : a.grownBy w (some g)) : a.grownBy (w.setRow g ds) (some g) :=
  ⟨h.os, h.tape, h.output, by simpa [World.setRow] using h.size, fun k hk hne => by
    have := h.block k hk hne
    simp only [World.setRow, Array.getElem?_modify]
    rw [if_neg (by intro hc; exact hne (by rw [hc]))]
    exact this⟩
theorem OwnRw {w : World} {base g c : Nat} {ds : Array Value} {A : Option Addr} {ls : List Ln} (hne : NotOwn A g) (h : OwnLs w base A ls c) : OwnLs (w.setRow g ds) base A ls c :=
  World.ownsRow.kept h (GrRow (World.grownBy.refl w (some g))) (.inr (hne _ _))
def evCells (es : List Ev) : List Value := es.flatMap fun e => (evcells e).toList
/-- A slice of events that reads as es. -/
def EsRd (w : World) (B : Option Addr) (es : List Ev) : Prop := RdN w 10 B es.length (evCells es)
theorem EsRd.ext {w w' : World} {B : Option Addr} {es : List Ev} (h : EsRd w B es) (hx : Ext w w') : EsRd w' B es := RdN.ext h hx
theorem evCells_len (es : List Ev) : (evCells es).length = es.length * 10 := by
  induction es with
  | nil => rfl
  | cons h r ih => simp only [evCells, List.flatMap_cons, List.length_append] at ih ⊢; rw [ih]; simp [evcells]; omega
theorem evCells_at (es : List Ev) (k j : Nat) (e : Ev) (hk : es[k]? = some e) (hj : j < 10) : (evCells es)[k * 10 + j]? = (evcells e).toList[j]? := by
  induction es generalizing k with
  | nil => simp at hk
  | cons g r ih =>
    have e1 : evCells (g :: r) = (evcells g).toList ++ evCells r := by simp [evCells]
    rw [e1]
    cases k with
    | zero =>
      simp at hk
      subst hk
      rw [List.getElem?_append_left (by simp [evcells]; omega)]
      simp
    | succ k =>
      rw [List.getElem?_append_right (by simp [evcells]; omega)]
      have : (k + 1) * 10 + j - (evcells g).toList.length = k * 10 + j := by simp [evcells]; omega
      rw [this]
      exact ih k (by simpa using hk)
theorem es_at {w : World} {B : Option Addr} {k : Nat} {es : List Ev} (h : EsRd w B es) (hk : k < es.length) :
    ∃ b o, B = some ⟨b, o, none⟩ ∧ w.rangeAt b (o + k * 10) (evcells es[k]).toList := by
  obtain ⟨b, o, e, hc⟩ := h.2 (by omega)
  have hg : es[k]? = some es[k] := List.getElem?_eq_getElem hk
  refine ⟨b, o, e, fun j v hv => ?_⟩
  have hj : j < 10 := by
    have := (List.getElem?_eq_some_iff.1 hv).1
    simpa [evcells] using this
  rw [Nat.add_assoc]
  exact hc _ _ (by rw [evCells_at es k j _ hg hj]; exact hv)
end Go.Proofs.YtjajbbgebblalaaGreatDoor

namespace Go.Proofs.YtjajbbgebblalaaGreatDoor
open Go.RowKit
set_option linter.unusedVariables false
set_option linter.unusedSimpArgs false
theorem step_append_own {P : Program} {ops : Array Oper} {o : Oper} {a : Act} {w : World} {K : Act → World → Prop} {Q : Exit → Act → World → Prop} {E : Prop}
    (hg : o.guard = none) (s x : Operand) (t : TypeId) (hop : o.op = Op.call { callee := Callee.builtin Builtin.append, args := #[s, x], argTypes := #[t, t] })
    (base : Nat) (e : TypeId) (z : Value) (size bytes : Nat) (h1 : P.underlying t = some (.slice e)) (he : Elem P e z size bytes)
    (v : Value) (n : Nat) (xs : List Value) (hs : a.eval s = v) (hown : w.ownsRow base e size v n xs)
    (ad : Addr) (m c : Nat) (news : List Value) (hx : a.eval x = .slice (some ad) m c) (hn : news.length = m * size) (hc : ∀ j u, news[j]? = some u → w.cell? (ad.add j) = some u) (h1c : ∀ u ∈ news, u.oneCell' = true)
    (b1 : n + m ≤ maxLen) (b2 : (n + m) * bytes ≤ 140737488355328) (hbase : base ≤ w.heap.size)
    (hK : ∀ v' w', w'.ownsRow base e size v' (n + m) (xs ++ news) → w.grownBy w' v.ownBlock → K (a.put o.dst v') w') :
    if Region.wanted o (yielded ops a.tmps) = true then Oper.wp P o a w K Q else E := by
  have hw : Region.wanted o (yielded ops a.tmps) = true := by simp [Region.wanted, hg]
  rw [if_pos hw]
  obtain ⟨i, h2, h3, h4, h5⟩ := info_parts he.1
  obtain ⟨v', w', hrun, r1, r2, _⟩ := run_append_own (P := P) w base t o.type e i z size bytes h1 h2 h3 h4 h5 he.2.1 he.2.2 v n xs hown ad m c news hn hc h1c b1 b2 hbase
  unfold Oper.wp
  simp [execOp, hop, resolve, invoke, builtin, hs, hx, hrun, Result.andThen]
  exact hK v' w' r1 r2
def CopPost (w : World) (s : St) (e' : Ending) (w' : World) : Prop := ∃ A' c', e' = .returned (.agg (stcells s A' c')) ∧ Ext w w' ∧ OwnLs w' w.heap.size A' s.lines c'
def CoR (w : World) (s : St) (A : Option Addr) (c : Nat) (c11 : Value) (wr : World) : Prop :=
  ∃ (k : Nat) (A' : Option Addr) (c' : Nat), c11 = .int .i64 (k : Nat) ∧ k ≤ s.lines.length ∧ Ext w wr ∧ Blk wr w.heap.size 77 (stcells s A c) ∧ Blk wr (w.heap.size + 1) 77 #[.int .i64 0, .int .i64 0, .int .i64 0, .int .i64 0, .int .i64 0, .slice none 0 0, .int .i64 0, .int .i64 0, .int .i64 0, .int .i64 0, .int .i64 0, .string ⟨#[]⟩] ∧
    Blk wr (w.heap.size + 1 + 1) 77 (stcells { s with lines := s.lines.take k } A' c') ∧ OwnLs wr w.heap.size A' (s.lines.take k) c'
theorem take_len {ls : List Ln} {k n : Nat} (h : k ≤ n) (hn : n = ls.length) : (ls.take k).length = k := by rw [List.length_take]; omega
set_option maxRecDepth 100000 in
set_option maxHeartbeats 4000000 in
theorem scopy_any (s : St) (A : Option Addr) (c : Nat) (w : World) (hr : LsRd w A s.lines) (hl : s.lines.length ≤ 4398046511000) :
    Calls Tryz.prog 74 #[.agg (stcells s A c)] w (CopPost w s) := by
  obtain ⟨order, status, prior, cur, tax, ls, paid, refunded, events, refused, stamp, who⟩ := s
  unfold CopPost
  have Hnn : Hid (∃ n, n = ls.length) := Lib.hid ⟨_, rfl⟩
  obtain ⟨n, hnn⟩ := Hnn.out
  have Hn := Lib.hid hnn
  clear Hnn
  unfold stcells at *
  dsimp only at *
  rw [← hnn] at hl ⊢
  clear hnn
  go_enter Tryz.func74, Tryz.ntmps74
  go_wp2_with fail
  go_loopw [11] (fun c11 wr => CoR w ⟨order, status, prior, cur, tax, ls, paid, refunded, events, refused, stamp, who⟩ A c c11 wr) (fun c11 _ => n - (intOf c11).toNat)
  case atStart => exact ⟨0, some ⟨w.heap.size + 1 + 1 + 1, 0, none⟩, 0, rfl, by omega, (by repeat (first | with_reducible exact Below.refl _ _ | with_reducible assumption | with_reducible refine ExtD ?_ | with_reducible refine ExtDN ?_ | with_reducible refine ExtA ?_ | (with_reducible refine ExtR ?_ ?_; (first | omega | (dsimp only; omega) | (simp; done) | (simp; omega))) | (with_reducible refine ExtS ?_ ?_; (first | omega | (dsimp only; omega) | (simp; done) | (simp; omega))) | with_reducible refine Ext.tr ?_ (by with_reducible assumption))), Blk_eq (cs := #[.int .i64 order, .int .i64 status, .int .i64 prior, .int .i64 cur, .int .i64 tax, .slice A n c, .int .i64 paid, .int .i64 refunded, .int .i64 events, .int .i64 refused, .int .i64 stamp, .string who]) (by repeat (first | with_reducible assumption | (with_reducible refine BlkN ?_; (first | rfl | (first | omega | (dsimp only; omega) | (simp; done) | (simp; omega)))) | with_reducible refine BlkD ?_ | with_reducible refine BlkDN ?_ | with_reducible refine BlkA ?_ | (with_reducible refine BlkF ?_ ?_; (first | omega | (dsimp only; omega) | (simp; done) | (simp; omega))) | with_reducible refine BlkE ?_ (by with_reducible assumption))) (by rw [Hn.out]; rfl), (by repeat (first | with_reducible assumption | (with_reducible refine BlkN ?_; (first | rfl | (first | omega | (dsimp only; omega) | (simp; done) | (simp; omega)))) | with_reducible refine BlkD ?_ | with_reducible refine BlkDN ?_ | with_reducible refine BlkA ?_ | (with_reducible refine BlkF ?_ ?_; (first | omega | (dsimp only; omega) | (simp; done) | (simp; omega))) | with_reducible refine BlkE ?_ (by with_reducible assumption))), Blk_eq (cs := #[.int .i64 order, .int .i64 status, .int .i64 prior, .int .i64 cur, .int .i64 tax, .slice (some ⟨w.heap.size + 1 + 1 + 1, 0, none⟩) 0 0, .int .i64 paid, .int .i64 refunded, .int .i64 events, .int .i64 refused, .int .i64 stamp, .string who]) (by repeat (first | with_reducible assumption | (with_reducible refine BlkN ?_; (first | rfl | (first | omega | (dsimp only; omega) | (simp; done) | (simp; omega)))) | with_reducible refine BlkD ?_ | with_reducible refine BlkDN ?_ | with_reducible refine BlkA ?_ | (with_reducible refine BlkF ?_ ?_; (first | omega | (dsimp only; omega) | (simp; done) | (simp; omega))) | with_reducible refine BlkE ?_ (by with_reducible assumption))) rfl, own_of_cells (by omega) (cur := #[]) (by repeat (first | with_reducible assumption | (with_reducible refine BlkN ?_; (first | rfl | (first | omega | (dsimp only; omega) | (simp; done) | (simp; omega)))) | with_reducible refine BlkD ?_ | with_reducible refine BlkDN ?_ | with_reducible refine BlkA ?_ | (with_reducible refine BlkF ?_ ?_; (first | omega | (dsimp only; omega) | (simp; done) | (simp; omega))) | with_reducible refine BlkE ?_ (by with_reducible assumption))) (Nat.zero_le _) (by decide) rfl rfl⟩
  case round =>
    obtain ⟨k, A2, c2, rfl, hk, hx, hbS, hbR, hbT, ho⟩ := hrel
    dsimp only at hk hbT ho
    rw [← Hn.out] at hk
    by_cases hlt : k < n
    · have hk0 : (ls.take k).length = k := take_len hk Hn.out
      have hk1 : (ls.take (k + 1)).length = k + 1 := take_len (n := n) (by omega) Hn.out
      obtain ⟨b, o, rfl, hc⟩ := ls_at hr (show k < ls.length by rw [← Hn.out]; exact hlt)
      have Hc := Lib.hid (range_ext hc hx)
      have hts : lnCells (ls.take (k + 1)) = lnCells (ls.take k) ++ (lncells (ls[k]'(by rw [← Hn.out]; exact hlt))).toList := by
        rw [List.take_succ_eq_append_getElem (by rw [← Hn.out]; exact hlt), lnCells_app, lnCells_one1]
      have H1 := Lib.hid (ln_one (ls[k]'(by rw [← Hn.out]; exact hlt)))
      clear hc
      generalize (ls[k]'(by rw [← Hn.out]; exact hlt)) = l at *
      obtain ⟨li, lp, lq, lsh⟩ := l
      unfold lncells at Hc hts H1
      dsimp only at Hc hts H1
      have e0 : wr.cell? ⟨b, o + k * 4, none⟩ = some (.int .i64 li) := Hc.out 0 _ rfl
      have e1 : wr.cell? ⟨b, o + k * 4 + 1, none⟩ = some (.int .i64 lp) := Hc.out 1 _ rfl
      have e2 : wr.cell? ⟨b, o + k * 4 + 2, none⟩ = some (.int .i64 lq) := Hc.out 2 _ rfl
      have e3 : wr.cell? ⟨b, o + k * 4 + 3, none⟩ = some (.int .i64 lsh) := Hc.out 3 _ rfl
      have hbS5 : wr.cell? ⟨w.heap.size, 5, none⟩ = some (.slice (some ⟨b, o, none⟩) n c) := (hbS.cell 5).trans (by rw [Hn.out]; rfl)
      have hbT' : Blk wr (w.heap.size + 1 + 1) 77 #[.int .i64 order, .int .i64 status, .int .i64 prior, .int .i64 cur, .int .i64 tax, .slice A2 k c2, .int .i64 paid, .int .i64 refunded, .int .i64 events, .int .i64 refused, .int .i64 stamp, .string who] := Blk_eq hbT (by simp only [stcells, hk0])
      have hbT5 : wr.cell? ⟨w.heap.size + 1 + 1, 5, none⟩ = some (.slice A2 k c2) := hbT'.cell 5
      have hA5 : ∀ ob, (wr.alloc ob).cell? ⟨w.heap.size + 1 + 1, 5, none⟩ = some (.slice A2 k c2) := fun ob => (BlkA hbT').cell 5
      have hap := own_apart ho hbT
      have Hown2 : Hid (World.ownsRow ((wr.alloc (.cells #[.int .i64 li, .int .i64 lp, .int .i64 lq, .int .i64 lsh] 79)).drew) w.heap.size 79 4 (.slice A2 k c2) k (lnCells (ls.take k))) := Lib.hid (by have := OwnD (OwnA (o := .cells #[.int .i64 li, .int .i64 lp, .int .i64 lq, .int .i64 lsh] 79) ho); unfold OwnLs at this; rwa [hk0] at this)
      have hbT2 : Blk ((wr.alloc (.cells #[.int .i64 li, .int .i64 lp, .int .i64 lq, .int .i64 lsh] 79)).drew) (w.heap.size + 1 + 1) 77 #[.int .i64 order, .int .i64 status, .int .i64 prior, .int .i64 cur, .int .i64 tax, .slice A2 k c2, .int .i64 paid, .int .i64 refunded, .int .i64 events, .int .i64 refused, .int .i64 stamp, .string who] := BlkD (BlkA hbT')
      have hbL : Blk ((wr.alloc (.cells #[.int .i64 li, .int .i64 lp, .int .i64 lq, .int .i64 lsh] 79)).drew) wr.heap.size 79 #[.int .i64 li, .int .i64 lp, .int .i64 lq, .int .i64 lsh] := BlkD (BlkN rfl)
      have Hnw : Hid (∀ j u, (#[.int .i64 li, .int .i64 lp, .int .i64 lq, .int .i64 lsh] : Array Value).toList[j]? = some u → ((wr.alloc (.cells #[.int .i64 li, .int .i64 lp, .int .i64 lq, .int .i64 lsh] 79)).drew).cell? ((⟨wr.heap.size, 0, none⟩ : Addr).add j) = some u) := Lib.hid fun j u hu => by rw [Addr.add_lit, Nat.zero_add, hbL.cell]; simpa using hu
      have hN : w.heap.size ≤ wr.heap.size := hx.size
      have Hbs : Hid (w.heap.size ≤ ((wr.alloc (.cells #[.int .i64 li, .int .i64 lp, .int .i64 lq, .int .i64 lsh] 79)).drew).heap.size) := Lib.hid (by simp; omega)
      have hkn : (k : Int) < (n : Int) := by omega
      have mixed : Tryz.prog.follows Departure.mixedOrders = true := by kernel_rfl
      have HbR := Lib.hid hbR
      have HbS := Lib.hid hbS
      have Hts := Lib.hid hts
      have ho0 := ho
      clear hbR hbS hbT hbT' hts ho
      go_wp2_with fail
      go_region_law_o (refine step_append_own rfl (.tmp 15) (.tmp 21) 75 rfl w.heap.size 79 _ 4 32 Tryz.underlying75 el_ln (.slice A2 k c2) k (lnCells (ls.take k)) (by simp [Act.eval, Act.put]) Hown2.out ⟨wr.heap.size, 0, none⟩ 1 1 [.int .i64 li, .int .i64 lp, .int .i64 lq, .int .i64 lsh] (by simp [Act.eval, Act.put]) rfl Hnw.out H1.out (by simp only [maxLen]; omega) (by omega) Hbs.out ?_; intro v' w2 hown' hg'; obtain ⟨A3, c3, rfl⟩ := own_slice hown'; have q := BlkG hbT2 hg' (fun h => hap _ _ h.symm); have z1 := q.cell 5; have z2 := q.frozen 5)
      all_goals
        go_wp2_with fail
        refine And.intro ?_ ?_
        · have o3 : OwnLs w2 w.heap.size A3 (ls.take (k + 1)) c3 := by unfold OwnLs; rw [hk1, Hts.out]; exact hown'
          have hap3 := own_apart o3 q
          have hX2 : Ext w w2 := Ext.grown (show Ext w ((wr.alloc (.cells #[.int .i64 li, .int .i64 lp, .int .i64 lq, .int .i64 lsh] 79)).drew) from (by repeat (first | with_reducible exact Below.refl _ _ | with_reducible assumption | with_reducible refine ExtD ?_ | with_reducible refine ExtDN ?_ | with_reducible refine ExtA ?_ | (with_reducible refine ExtR ?_ ?_; (first | omega | (dsimp only; omega) | (simp; done) | (simp; omega))) | (with_reducible refine ExtS ?_ ?_; (first | omega | (dsimp only; omega) | (simp; done) | (simp; omega))) | with_reducible refine Ext.tr ?_ (by with_reducible assumption)))) hg' (fun r hr2 => (World.ownsRow.lt Hown2.out r hr2).1)
          refine ⟨k + 1, A3, c3, by go_num, by have := Hn.out; dsimp only; omega, (by repeat (first | with_reducible exact Below.refl _ _ | with_reducible assumption | with_reducible refine ExtD ?_ | with_reducible refine ExtDN ?_ | with_reducible refine ExtA ?_ | (with_reducible refine ExtR ?_ ?_; (first | omega | (dsimp only; omega) | (simp; done) | (simp; omega))) | (with_reducible refine ExtS ?_ ?_; (first | omega | (dsimp only; omega) | (simp; done) | (simp; omega))) | with_reducible refine Ext.tr ?_ (by with_reducible assumption))), ?_, ?_, Blk_eq (BlkS q) (by simp only [stcells, hk1]; rfl), OwnSt hap3 o3⟩
          · exact BlkF (by dsimp only; omega) (BlkG (BlkD (BlkA HbS.out)) hg' (fun h => own_apart ho0 HbS.out _ _ h.symm))
          · exact BlkF (by dsimp only; omega) (BlkG (BlkD (BlkA HbR.out)) hg' (fun h => own_apart ho0 HbR.out _ _ h.symm))
        · simp [intOf]; omega
    · obtain rfl : k = n := by omega
      have htk : ls.take k = ls := List.take_of_length_le (by have := Hn.out; omega)
      rw [htk] at hbT ho
      have hbT' : Blk wr (w.heap.size + 1 + 1) 77 #[.int .i64 order, .int .i64 status, .int .i64 prior, .int .i64 cur, .int .i64 tax, .slice A2 k c2, .int .i64 paid, .int .i64 refunded, .int .i64 events, .int .i64 refused, .int .i64 stamp, .string who] := Blk_eq hbT (by simp only [stcells]; rw [← Hn.out])
      have hap := own_apart ho hbR
      go_wp2_with (first
        | (with_reducible refine wpL_load_row rfl 77 (.tmp 3) rfl _ 77 _ 12 rfl hbT' st_wide (st_size' _ _ _ _ _ _ _ _ _ _ _ _ _ _) ?_)
        | (with_reducible refine wpL_store_row rfl 77 (.tmp 2) (.tmp 25) rfl _ 77 _ _ rfl rfl hbR ((st_size' _ _ _ _ _ _ _ _ _ _ _ _ _ _).trans (st_size' _ _ _ _ _ _ _ _ _ _ _ _ _ _).symm) (st_one' _ _ _ _ _ _ _ _ _ _ _ _ _ _) 12 st_wide (st_size' _ _ _ _ _ _ _ _ _ _ _ _ _ _) ?_))
      refine bodyPost_ret (res_row rfl _ _ _ 77 _ 12 rfl (Blk.setRow_ hbR) st_wide rfl) rfl ?_
      exact ⟨A2, c2, rfl, (by repeat (first | with_reducible exact Below.refl _ _ | with_reducible assumption | with_reducible refine ExtD ?_ | with_reducible refine ExtDN ?_ | with_reducible refine ExtA ?_ | (with_reducible refine ExtR ?_ ?_; (first | omega | (dsimp only; omega) | (simp; done) | (simp; omega))) | (with_reducible refine ExtS ?_ ?_; (first | omega | (dsimp only; omega) | (simp; done) | (simp; omega))) | with_reducible refine Ext.tr ?_ (by with_reducible assumption))), OwnRw hap ho⟩
def SaR (W : World) (n : Nat) (c91 : Value) (wr : World) : Prop := ∃ k : Nat, c91 = .int .i64 (k : Nat) ∧ k ≤ n ∧ Ext W wr
set_option maxRecDepth 100000 in
set_option maxHeartbeats 4000000 in
theorem ssame_any (s : St) (A A2 : Option Addr) (c c2 : Nat) (w : World) (hr : LsRd w A s.lines) (hr2 : LsRd w A2 s.lines) (hl : s.lines.length ≤ 4611686018427387904) :
    Calls Tryz.prog 41 #[.agg (stcells s A c), .agg (stcells s A2 c2)] w fun e w' => e = .returned (.bool true) ∧ Ext w w' := by
  obtain ⟨order, status, prior, cur, tax, ls, paid, refunded, events, refused, stamp, who⟩ := s
  have Hnn : Hid (∃ n, n = ls.length) := Lib.hid ⟨_, rfl⟩
  obtain ⟨n, hnn⟩ := Hnn.out
  have Hn := Lib.hid hnn
  clear Hnn
  unfold stcells at *
  dsimp only at *
  rw [← hnn] at hl ⊢
  clear hnn
  go_enter Tryz.func41, Tryz.ntmps41
  go_wp2_with fail
  obtain ⟨W, hW⟩ : ∃ W, W = (w.alloc (.cells #[.int .i64 order, .int .i64 status, .int .i64 prior, .int .i64 cur, .int .i64 tax, .slice A n c, .int .i64 paid, .int .i64 refunded, .int .i64 events, .int .i64 refused, .int .i64 stamp, .string who] 77)).alloc (.cells #[.int .i64 order, .int .i64 status, .int .i64 prior, .int .i64 cur, .int .i64 tax, .slice A2 n c2, .int .i64 paid, .int .i64 refunded, .int .i64 events, .int .i64 refused, .int .i64 stamp, .string who] 77) := ⟨_, rfl⟩
  have hXW : Ext w W := by rw [hW]; exact (by repeat (first | with_reducible exact Below.refl _ _ | with_reducible assumption | with_reducible refine ExtD ?_ | with_reducible refine ExtDN ?_ | with_reducible refine ExtA ?_ | (with_reducible refine ExtR ?_ ?_; (first | omega | (dsimp only; omega) | (simp; done) | (simp; omega))) | (with_reducible refine ExtS ?_ ?_; (first | omega | (dsimp only; omega) | (simp; done) | (simp; omega))) | with_reducible refine Ext.tr ?_ (by with_reducible assumption)))
  have hB1 : Blk W w.heap.size 77 #[.int .i64 order, .int .i64 status, .int .i64 prior, .int .i64 cur, .int .i64 tax, .slice A n c, .int .i64 paid, .int .i64 refunded, .int .i64 events, .int .i64 refused, .int .i64 stamp, .string who] := by rw [hW]; exact (by repeat (first | with_reducible assumption | (with_reducible refine BlkN ?_; (first | rfl | (first | omega | (dsimp only; omega) | (simp; done) | (simp; omega)))) | with_reducible refine BlkD ?_ | with_reducible refine BlkDN ?_ | with_reducible refine BlkA ?_ | (with_reducible refine BlkF ?_ ?_; (first | omega | (dsimp only; omega) | (simp; done) | (simp; omega))) | with_reducible refine BlkE ?_ (by with_reducible assumption)))
  have hB2 : Blk W (w.heap.size + 1) 77 #[.int .i64 order, .int .i64 status, .int .i64 prior, .int .i64 cur, .int .i64 tax, .slice A2 n c2, .int .i64 paid, .int .i64 refunded, .int .i64 events, .int .i64 refused, .int .i64 stamp, .string who] := by rw [hW]; exact (by repeat (first | with_reducible assumption | (with_reducible refine BlkN ?_; (first | rfl | (first | omega | (dsimp only; omega) | (simp; done) | (simp; omega)))) | with_reducible refine BlkD ?_ | with_reducible refine BlkDN ?_ | with_reducible refine BlkA ?_ | (with_reducible refine BlkF ?_ ?_; (first | omega | (dsimp only; omega) | (simp; done) | (simp; omega))) | with_reducible refine BlkE ?_ (by with_reducible assumption)))
  rw [← hW]
  clear hW
  go_loopw [91] (fun c91 wr => SaR W n c91 wr) (fun c91 _ => n - (intOf c91).toNat)
  case atStart => exact ⟨0, rfl, by omega, Below.refl _ _⟩
  case round =>
    obtain ⟨k, rfl, hk, hx⟩ := hrel
    by_cases hlt : k < n
    · obtain ⟨b, o, rfl, hc⟩ := ls_at hr (show k < ls.length by rw [← Hn.out]; exact hlt)
      obtain ⟨b2, o2, rfl, hc2⟩ := ls_at hr2 (show k < ls.length by rw [← Hn.out]; exact hlt)
      have Hc := Lib.hid (range_ext hc (hXW.tr hx))
      have Hc2 := Lib.hid (range_ext hc2 (hXW.tr hx))
      clear hc hc2
      generalize (ls[k]'(by rw [← Hn.out]; exact hlt)) = l at *
      obtain ⟨li, lp, lq, lsh⟩ := l
      unfold lncells at Hc Hc2
      dsimp only at Hc Hc2
      have e0 : wr.cell? ⟨b, o + k * 4, none⟩ = some (.int .i64 li) := Hc.out 0 _ rfl
      have e1 : wr.cell? ⟨b, o + k * 4 + 1, none⟩ = some (.int .i64 lp) := Hc.out 1 _ rfl
      have e2 : wr.cell? ⟨b, o + k * 4 + 2, none⟩ = some (.int .i64 lq) := Hc.out 2 _ rfl
      have e3 : wr.cell? ⟨b, o + k * 4 + 3, none⟩ = some (.int .i64 lsh) := Hc.out 3 _ rfl
      have f0 : wr.cell? ⟨b2, o2 + k * 4, none⟩ = some (.int .i64 li) := Hc2.out 0 _ rfl
      have f1 : wr.cell? ⟨b2, o2 + k * 4 + 1, none⟩ = some (.int .i64 lp) := Hc2.out 1 _ rfl
      have f2 : wr.cell? ⟨b2, o2 + k * 4 + 2, none⟩ = some (.int .i64 lq) := Hc2.out 2 _ rfl
      have f3 : wr.cell? ⟨b2, o2 + k * 4 + 3, none⟩ = some (.int .i64 lsh) := Hc2.out 3 _ rfl
      have a5 : wr.cell? ⟨w.heap.size, 5, none⟩ = some (.slice (some ⟨b, o, none⟩) n c) := (BlkE hB1 hx).cell 5
      have b5 : wr.cell? ⟨w.heap.size + 1, 5, none⟩ = some (.slice (some ⟨b2, o2, none⟩) n c2) := (BlkE hB2 hx).cell 5
      have hkn : (k : Int) < (n : Int) := by omega
      go_wp2_with fail
      all_goals try go_region
      all_goals (go_wp2_with fail)
      refine And.intro ?_ ?_
      · exact ⟨k + 1, by go_num, by omega, (by repeat (first | with_reducible exact Below.refl _ _ | with_reducible assumption | with_reducible refine ExtD ?_ | with_reducible refine ExtDN ?_ | with_reducible refine ExtA ?_ | (with_reducible refine ExtR ?_ ?_; (first | omega | (dsimp only; omega) | (simp; done) | (simp; omega))) | (with_reducible refine ExtS ?_ ?_; (first | omega | (dsimp only; omega) | (simp; done) | (simp; omega))) | with_reducible refine Ext.tr ?_ (by with_reducible assumption)))⟩
      · simp [intOf]; omega
    · obtain rfl : k = n := by omega
      go_wp2_with fail
      go_ret
      exact ⟨rfl, (by repeat (first | with_reducible exact Below.refl _ _ | with_reducible assumption | with_reducible refine ExtD ?_ | with_reducible refine ExtDN ?_ | with_reducible refine ExtA ?_ | (with_reducible refine ExtR ?_ ?_; (first | omega | (dsimp only; omega) | (simp; done) | (simp; omega))) | (with_reducible refine ExtS ?_ ?_; (first | omega | (dsimp only; omega) | (simp; done) | (simp; omega))) | with_reducible refine Ext.tr ?_ (by with_reducible assumption)))⟩
end Go.Proofs.YtjajbbgebblalaaGreatDoor
