/-
  Orders in memory: lines, states, events; the walks of order.net and order.due.
-/
import Derived.Test.YtlpjhnecihhkfaaNumW3
import Derived.Test.YtlpjhnecihhkfaaOwn
import Derived.Test.YtlpjhnecihhkfaaOrdP
import Derived.Deep.MidRow
namespace Go.Proofs.Ytlpjhnecihhkfaa
open Go.RowKit
set_option linter.unusedVariables false
set_option linter.unusedSimpArgs false
def lncells (l : Ln) : Array Value := #[.int .i64 l.item, .int .i64 l.price, .int .i64 l.qty, .int .i64 l.shipped]
def lnCells (ls : List Ln) : List Value := ls.flatMap fun l => (lncells l).toList
/-- A slice of lines that reads as ls. -/
def LsRd (w : World) (A : Option Addr) (ls : List Ln) : Prop := RdN w 4 A ls.length (lnCells ls)
def stcells (s : St) (A : Option Addr) (c : Nat) : Array Value :=
  #[.int .i64 s.order, .int .i64 s.status, .int .i64 s.prior, .int .i64 s.cur, .int .i64 s.tax, .slice A s.lines.length c, .int .i64 s.paid, .int .i64 s.refunded, .int .i64 s.events, .int .i64 s.refused, .int .i64 s.stamp, .string s.who]
def evcells (e : Ev) : Array Value :=
  #[.int .i64 e.kind, .int .i64 e.order, .int .i64 e.item, .int .i64 e.qty, .int .i64 e.price, .int .i64 e.cur, .int .i64 e.tax, .string e.who, .int .i64 e.stamp, .string e.note]
theorem ln_wide : Wide Try.prog 48 4 := ⟨⟨_, Try.underlying48, rfl⟩, by kernel_rfl⟩
theorem st_wide : Wide Try.prog 25 12 := ⟨⟨_, Try.underlying25, rfl⟩, by kernel_rfl⟩
theorem ev_wide : Wide Try.prog 28 10 := ⟨⟨_, Try.underlying28, rfl⟩, by kernel_rfl⟩
theorem ln_one (l : Ln) : ∀ v ∈ (lncells l).toList, v.oneCell' = true := by
  intro v hv; simp [lncells] at hv; rcases hv with rfl | rfl | rfl | rfl <;> rfl
theorem lnCells_len (ls : List Ln) : (lnCells ls).length = ls.length * 4 := by
  induction ls with
  | nil => rfl
  | cons h r ih => simp only [lnCells, List.flatMap_cons, List.length_append] at ih ⊢; rw [ih]; simp [lncells]; omega
theorem lnCells_app (a b : List Ln) : lnCells (a ++ b) = lnCells a ++ lnCells b := by simp [lnCells]
theorem lnCells_one (ls : List Ln) : ∀ v ∈ lnCells ls, v.oneCell' = true := by
  intro v hv
  obtain ⟨l, _, hl⟩ := List.mem_flatMap.1 hv
  exact ln_one l v hl
theorem lnCells_at (ls : List Ln) (k j : Nat) (l : Ln) (hk : ls[k]? = some l) (hj : j < 4) : (lnCells ls)[k * 4 + j]? = (lncells l).toList[j]? := by
  induction ls generalizing k with
  | nil => simp at hk
  | cons g r ih =>
    have e : lnCells (g :: r) = (lncells g).toList ++ lnCells r := by simp [lnCells]
    rw [e]
    cases k with
    | zero =>
      simp at hk
      subst hk
      rw [List.getElem?_append_left (by simp [lncells]; omega)]
      simp
    | succ k =>
      rw [List.getElem?_append_right (by simp [lncells]; omega)]
      have : (k + 1) * 4 + j - (lncells g).toList.length = k * 4 + j := by simp [lncells]; omega
      rw [this]
      exact ih k (by simpa using hk)
theorem LsRd.ext {w w' : World} {A : Option Addr} {ls : List Ln} (h : LsRd w A ls) (hx : Ext w w') : LsRd w' A ls := RdN.ext h hx
theorem ls_at {w : World} {A : Option Addr} {k : Nat} {ls : List Ln} (h : LsRd w A ls) (hk : k < ls.length) :
    ∃ b o, A = some ⟨b, o, none⟩ ∧ w.rangeAt b (o + k * 4) (lncells ls[k]).toList := by
  obtain ⟨b, o, e, hc⟩ := h.2 (by omega)
  have hg : ls[k]? = some ls[k] := List.getElem?_eq_getElem hk
  refine ⟨b, o, e, fun j v hv => ?_⟩
  have hj : j < 4 := by
    have := (List.getElem?_eq_some_iff.1 hv).1
    simpa [lncells] using this
  rw [Nat.add_assoc]
  exact hc _ _ (by rw [lnCells_at ls k j _ hg hj]; exact hv)
theorem range_ext {w w' : World} {b o : Nat} {cs : List Value} (h : w.rangeAt b o cs) (hx : Ext w w') : w'.rangeAt b o cs := fun j v hv => hx.cell (h j v hv)
section
variable {w : World}
theorem wpL_load_ln {ops : Array Oper} {rest : List Oper} {op : Oper} {a : Act} {Q : Exit → Act → World → Prop} (hgd : op.guard = none) (x : Operand) (ho : op.op = .load 48 x)
    (b o : Nat) (hx : a.eval x = .pointer (some ⟨b, o, none⟩)) (cs : Array Value) (hc : w.rangeAt b o cs.toList) (hsz : cs.size = 4)
    (h : wpList Try.prog ops Q rest (a.put op.dst (.agg cs)) w) : wpList Try.prog ops Q (op :: rest) a w := by
  obtain ⟨⟨d, hu, hd⟩, hi⟩ := ln_wide
  exact wpList_load_mid hgd 48 x ho b o hx cs.toList d hc hu (by revert hd; cases d <;> simp [TypeDesc.isRow]) (by rw [Array.length_toList, hsz]; exact hi) h
end
theorem net_snoc (a : List Ln) (l : Ln) : net (a ++ [l]) = net a + l.qty * l.price := by simp [net, List.sum_append]
theorem net_take {ls : List Ln} {k : Nat} (hk : k < ls.length) : net (ls.take (k + 1)) = net (ls.take k) + ls[k].qty * ls[k].price := by
  rw [List.take_succ_eq_append_getElem hk, net_snoc]
def NetR (W : World) (ls : List Ln) (c3 c9 : Value) (wr : World) : Prop :=
  ∃ k : Nat, c3 = .int .i64 (net (ls.take k)) ∧ c9 = .int .i64 (k : Nat) ∧ k ≤ ls.length ∧ Ext W wr
theorem alloc_ln (w : World) : (Instr.alloc 48 true (.tuple #[])).run Try.prog w = .ok (.pointer (some ⟨w.heap.size, 0, none⟩)) (w.alloc (.cells (lncells ⟨0, 0, 0, 0⟩) 48)) := by kernel_rfl
theorem prod_ok {l : Ln} (h : lnB l = true) : 0 ≤ l.qty * l.price ∧ l.qty * l.price ≤ 10000000000000 := by
  obtain ⟨_, ⟨p1, p2⟩, ⟨q1, q2⟩, _⟩ := lnB_iff.1 h
  exact ⟨Int.mul_nonneg (by omega) p1, Int.mul_le_mul q2 p2 p1 (by omega)⟩
set_option maxRecDepth 100000 in
set_option maxHeartbeats 2000000 in
theorem net_any (s : St) (A : Option Addr) (c : Nat) (w : World) (hr : LsRd w A s.lines) (hl : ∀ l ∈ s.lines, lnB l = true) (hn : s.lines.length ≤ 16) :
    Calls Try.prog 51 #[.agg (stcells s A c)] w fun e w' => e = .returned (.int .i64 (net s.lines)) ∧ Ext w w' := by
  obtain ⟨n, hnn⟩ : ∃ n, n = s.lines.length := ⟨_, rfl⟩
  unfold stcells
  rw [← hnn] at hn ⊢
  have HN := Lib.hid hnn
  clear hnn
  go_enter Try.func51, Try.ntmps51
  go_wp2_with fail
  go_loopw [3, 9] (fun c3 c9 wr => NetR w s.lines c3 c9 wr) (fun _ c9 _ => n - (intOf c9).toNat)
  case atStart => exact ⟨0, by simp [net], rfl, by omega, (by repeat (first | with_reducible exact Below.refl _ _ | with_reducible assumption | with_reducible refine ExtD ?_ | with_reducible refine ExtDN ?_ | with_reducible refine ExtA ?_ | (with_reducible refine ExtR ?_ ?_; (first | omega | (dsimp only; omega) | (simp; done) | (simp; omega))) | (with_reducible refine ExtS ?_ ?_; (first | omega | (dsimp only; omega) | (simp; done) | (simp; omega))) | with_reducible refine Ext.tr ?_ (by with_reducible assumption)))⟩
  case round =>
    obtain ⟨k, rfl, rfl, hk, hx⟩ := hrel
    rw [← HN.out] at hk
    by_cases hlt : k < n
    · obtain ⟨b, o, rfl, hc⟩ := ls_at hr (show k < s.lines.length by rw [← HN.out]; exact hlt)
      have Hc := Lib.hid (range_ext hc hx)
      have hal := alloc_ln
      have hp := prod_ok (hl _ (List.getElem_mem (show k < s.lines.length by rw [← HN.out]; exact hlt)))
      have hb := net_bound (ls := s.lines.take k) fun l h => hl l (List.mem_of_mem_take h)
      have hb2 : (s.lines.take k).length ≤ 16 := by simp; omega
      have Hs := Lib.hid (net_take (ls := s.lines) (k := k) (show k < s.lines.length by rw [← HN.out]; exact hlt))
      clear hc
      generalize s.lines[k]'(by rw [← HN.out]; exact hlt) = l at *
      generalize net (s.lines.take k) = m at *
      obtain ⟨li, lp, lq, lsh⟩ := l
      dsimp only at hp
      unfold lncells at Hc hal
      dsimp only at Hc hal
      have e0 : wr.cell? ⟨b, o + k * 4, none⟩ = some (.int .i64 li) := Hc.out 0 _ rfl
      have e1 : wr.cell? ⟨b, o + k * 4 + 1, none⟩ = some (.int .i64 lp) := Hc.out 1 _ rfl
      have e2 : wr.cell? ⟨b, o + k * 4 + 2, none⟩ = some (.int .i64 lq) := Hc.out 2 _ rfl
      have e3 : wr.cell? ⟨b, o + k * 4 + 3, none⟩ = some (.int .i64 lsh) := Hc.out 3 _ rfl
      go_wp2_with fail
      go_roundw
      case rel => exact ⟨k + 1, by rw [Hs.out], by go_num, by have := HN.out; omega, (by repeat (first | with_reducible exact Below.refl _ _ | with_reducible assumption | with_reducible refine ExtD ?_ | with_reducible refine ExtDN ?_ | with_reducible refine ExtA ?_ | (with_reducible refine ExtR ?_ ?_; (first | omega | (dsimp only; omega) | (simp; done) | (simp; omega))) | (with_reducible refine ExtS ?_ ?_; (first | omega | (dsimp only; omega) | (simp; done) | (simp; omega))) | with_reducible refine Ext.tr ?_ (by with_reducible assumption)))⟩
      case measure => simp [intOf]; omega
    · obtain rfl : k = n := by omega
      have htk : s.lines.take k = s.lines := List.take_of_length_le (by have := HN.out; omega)
      rw [htk]
      go_wp2_with fail
      go_ret
      exact ⟨rfl, (by repeat (first | with_reducible exact Below.refl _ _ | with_reducible assumption | with_reducible refine ExtD ?_ | with_reducible refine ExtDN ?_ | with_reducible refine ExtA ?_ | (with_reducible refine ExtR ?_ ?_; (first | omega | (dsimp only; omega) | (simp; done) | (simp; omega))) | (with_reducible refine ExtS ?_ ?_; (first | omega | (dsimp only; omega) | (simp; done) | (simp; omega))) | with_reducible refine Ext.tr ?_ (by with_reducible assumption)))⟩
end Go.Proofs.Ytlpjhnecihhkfaa
