/-
  The walks of schema.within, plain, the versions' fits and Event.
-/
/-
  The walks of the versions' Event, Lift, typed and Check at version 5; order.named.
-/
import Derived.Test.YtjomgppbialeoaaGreatOrdW
import Derived.Handy
namespace Go.Proofs.YtjomgppbialeoaaGreat
open Go.RowKit
set_option linter.unusedVariables false
set_option linter.unusedSimpArgs false
theorem swithin_any (x lo hi : Int) (w : World) : Calls Tryz.prog 104 #[.int .i64 x, .int .i64 lo, .int .i64 hi] w fun e w' => e = .returned (.bool (wi x lo hi)) ∧ Ext w w' := by
  have Hv : Hid (wi x lo hi = decide (lo ≤ x ∧ x ≤ hi)) := Lib.hid rfl
  by_cases h1 : lo ≤ x
  · go_enter Tryz.func104, Tryz.ntmps104
    go_wp2_with fail
    go_ret
    exact ⟨by rw [Hv.out]; simp [h1], (by repeat (first | with_reducible exact Below.refl _ _ | with_reducible assumption | with_reducible refine ExtD ?_ | with_reducible refine ExtDN ?_ | with_reducible refine ExtA ?_ | (with_reducible refine ExtR ?_ ?_; (first | omega | (dsimp only; omega) | (simp; done) | (simp; omega))) | (with_reducible refine ExtS ?_ ?_; (first | omega | (dsimp only; omega) | (simp; done) | (simp; omega))) | with_reducible refine Ext.tr ?_ (by with_reducible assumption)))⟩
  · go_enter Tryz.func104, Tryz.ntmps104
    go_wp2_with fail
    go_ret
    exact ⟨by rw [Hv.out]; simp; omega, (by repeat (first | with_reducible exact Below.refl _ _ | with_reducible assumption | with_reducible refine ExtD ?_ | with_reducible refine ExtDN ?_ | with_reducible refine ExtA ?_ | (with_reducible refine ExtR ?_ ?_; (first | omega | (dsimp only; omega) | (simp; done) | (simp; omega))) | (with_reducible refine ExtS ?_ ?_; (first | omega | (dsimp only; omega) | (simp; done) | (simp; omega))) | with_reducible refine Ext.tr ?_ (by with_reducible assumption)))⟩
def pcB (c : UInt8) : Bool := c == 45 || (48 ≤ c && c ≤ 57) || (97 ≤ c && c ≤ 122)
theorem pcB_iff (c : UInt8) : pcB c = true ↔ c.toNat = 45 ∨ (48 ≤ c.toNat ∧ c.toNat ≤ 57) ∨ (97 ≤ c.toNat ∧ c.toNat ≤ 122) := by
  unfold pcB
  simp [UInt8.le_iff_toNat_le, ← UInt8.toNat_inj, or_assoc]
theorem plain_eq (s : ByteArray) : plainB s = s.data.toList.all pcB := rfl
theorem plain_next {s : ByteArray} {k : Nat} (hk : k < s.size) (h : (s.data.toList.take k).all pcB = true) (hc : pcB s[k] = true) : (s.data.toList.take (k + 1)).all pcB = true := by
  have hk2 : k < s.data.toList.length := by simpa using hk
  rw [List.take_succ_eq_append_getElem hk2, List.all_append, h]
  simp only [List.all_cons, List.all_nil, Bool.and_true, Bool.true_and]
  exact hc
theorem plain_bad {s : ByteArray} {k : Nat} (hk : k < s.size) (hc : pcB s[k] = false) : plainB s = false := by
  rw [plain_eq, List.all_eq_false]
  exact ⟨s[k], by rw [Array.mem_toList_iff]; exact Array.getElem_mem _, by simpa using hc⟩
def plainR (W : World) (s : ByteArray) (c7 : Value) (wr : World) : Prop :=
  ∃ k : Nat, c7 = .int .i64 (k : Nat) ∧ k ≤ s.size ∧ (s.data.toList.take k).all pcB = true ∧ Ext W wr
set_option maxRecDepth 100000 in
set_option maxHeartbeats 2000000 in
theorem plain_any (s : ByteArray) (w : World) (hn : s.size ≤ 4611686018427387904) :
    Calls Tryz.prog 116 #[.string s] w fun e w' => e = .returned (.bool (plainB s)) ∧ Ext w w' := by
  go_enter Tryz.func116, Tryz.ntmps116
  go_wp2_with fail
  go_loopw [7] (fun c7 wr => plainR w s c7 wr) (fun c7 _ => s.size - (intOf c7).toNat)
  case atStart => exact ⟨0, rfl, by omega, rfl, (by repeat (first | with_reducible exact Below.refl _ _ | with_reducible assumption | with_reducible refine ExtD ?_ | with_reducible refine ExtDN ?_ | with_reducible refine ExtA ?_ | (with_reducible refine ExtR ?_ ?_; (first | omega | (dsimp only; omega) | (simp; done) | (simp; omega))) | (with_reducible refine ExtS ?_ ?_; (first | omega | (dsimp only; omega) | (simp; done) | (simp; omega))) | with_reducible refine Ext.tr ?_ (by with_reducible assumption)))⟩
  case round =>
    obtain ⟨k, rfl, hk, hp, hx⟩ := hrel
    have Hp := Lib.hid hp
    clear hp
    by_cases hlt : k < s.size
    · have Hi := Lib.hid (pcB_iff s[k])
      go_wp2_with fail
      all_goals first
        | (refine And.intro ?_ ?_
           · exact ⟨k + 1, by go_num, by omega, plain_next hlt Hp.out (Hi.out.2 (by simp at *; omega)), (by repeat (first | with_reducible exact Below.refl _ _ | with_reducible assumption | with_reducible refine ExtD ?_ | with_reducible refine ExtDN ?_ | with_reducible refine ExtA ?_ | (with_reducible refine ExtR ?_ ?_; (first | omega | (dsimp only; omega) | (simp; done) | (simp; omega))) | (with_reducible refine ExtS ?_ ?_; (first | omega | (dsimp only; omega) | (simp; done) | (simp; omega))) | with_reducible refine Ext.tr ?_ (by with_reducible assumption)))⟩
           · simp [intOf]; omega)
        | (go_ret
           refine ⟨?_, (by repeat (first | with_reducible exact Below.refl _ _ | with_reducible assumption | with_reducible refine ExtD ?_ | with_reducible refine ExtDN ?_ | with_reducible refine ExtA ?_ | (with_reducible refine ExtR ?_ ?_; (first | omega | (dsimp only; omega) | (simp; done) | (simp; omega))) | (with_reducible refine ExtS ?_ ?_; (first | omega | (dsimp only; omega) | (simp; done) | (simp; omega))) | with_reducible refine Ext.tr ?_ (by with_reducible assumption)))⟩
           have hb : pcB s[k] = false := by
             cases hb : pcB s[k] with
             | false => rfl
             | true => exfalso; have := Hi.out.1 hb; simp at *; omega
           rw [plain_bad hlt hb]; rfl)
    · have hk2 : k = s.size := by omega
      have Hv : Hid (plainB s = true) := Lib.hid (by
        have h := Hp.out
        rw [List.take_of_length_le (by simp; have : s.data.size = s.size := rfl; omega)] at h
        exact h)
      clear Hp
      subst hk2
      go_wp2_with fail
      go_ret
      exact ⟨by rw [Hv.out]; rfl, (by repeat (first | with_reducible exact Below.refl _ _ | with_reducible assumption | with_reducible refine ExtD ?_ | with_reducible refine ExtDN ?_ | with_reducible refine ExtA ?_ | (with_reducible refine ExtR ?_ ?_; (first | omega | (dsimp only; omega) | (simp; done) | (simp; omega))) | (with_reducible refine ExtS ?_ ?_; (first | omega | (dsimp only; omega) | (simp; done) | (simp; omega))) | with_reducible refine Ext.tr ?_ (by with_reducible assumption)))⟩
def v1cells (e : Ev) : Array Value := #[.int .i64 e.kind, .int .i64 e.order, .int .i64 e.item, .int .i64 e.qty, .int .i64 e.price]
def v2cells (e : Ev) : Array Value := #[.int .i64 e.kind, .int .i64 e.order, .int .i64 e.item, .int .i64 e.qty, .int .i64 e.price, .int .i64 e.cur]
def v3cells (e : Ev) : Array Value := #[.int .i64 e.kind, .int .i64 e.order, .int .i64 e.item, .int .i64 e.qty, .int .i64 e.price, .int .i64 e.cur, .int .i64 e.tax]
def v4cells (e : Ev) : Array Value := #[.int .i64 e.kind, .int .i64 e.order, .int .i64 e.item, .int .i64 e.qty, .int .i64 e.price, .int .i64 e.cur, .int .i64 e.tax, .string e.who]
set_option maxRecDepth 100000 in
set_option maxHeartbeats 2000000 in
theorem core_any (e : Ev) (least dear : Int) (w : World) :
    Calls Tryz.prog 103 #[.agg (v1cells e), .int .i64 least, .int .i64 dear] w fun e' w' => e' = .returned (.bool (wi e.order 1 1099511627776 && wi e.item 0 65535 && wi e.qty least 10000 && wi e.price 0 dear)) ∧ Ext w w' := by
  obtain ⟨kind, order, item, qty, price, cur, tax, who, stamp, note⟩ := e
  unfold v1cells
  dsimp only
  obtain ⟨B1, hB1⟩ : ∃ b, b = wi order 1 1099511627776 := ⟨_, rfl⟩
  obtain ⟨B2, hB2⟩ : ∃ b, b = wi item 0 65535 := ⟨_, rfl⟩
  obtain ⟨B3, hB3⟩ : ∃ b, b = wi qty least 10000 := ⟨_, rfl⟩
  obtain ⟨B4, hB4⟩ : ∃ b, b = wi price 0 dear := ⟨_, rfl⟩
  have K1 := Lib.hid fun W => swithin_any order 1 1099511627776 W
  have K2 := Lib.hid fun W => swithin_any item 0 65535 W
  have K3 := Lib.hid fun W => swithin_any qty least 10000 W
  have K4 := Lib.hid fun W => swithin_any price 0 dear W
  rw [← hB1] at K1
  rw [← hB2] at K2
  rw [← hB3] at K3
  rw [← hB4] at K4
  rw [← hB1, ← hB2, ← hB3, ← hB4]
  clear hB1 hB2 hB3 hB4
  have hc : B1 = false ∨ (B1 = true ∧ B2 = false) ∨ (B1 = true ∧ B2 = true ∧ B3 = false) ∨ (B1 = true ∧ B2 = true ∧ B3 = true) := by cases B1 <;> cases B2 <;> cases B3 <;> simp
  rcases hc with rfl | ⟨rfl, rfl⟩ | ⟨rfl, rfl, rfl⟩ | ⟨rfl, rfl, rfl⟩
  all_goals
    go_enter Tryz.func103, Tryz.ntmps103
    go_wp2_with (first
      | (go_at_call 104; (with_reducible refine (K1.out _).mono ?_); rintro e w1 ⟨rfl, hx1⟩; have b1 : Blk w1 w.heap.size 110 #[.int .i64 kind, .int .i64 order, .int .i64 item, .int .i64 qty, .int .i64 price] := Ext.blk hx1 (BlkN rfl); have d1 : w1.cell? ⟨w.heap.size, 2, none⟩ = some (.int .i64 item) := b1.cell 2)
      | (go_at_call 104; (with_reducible refine (K2.out _).mono ?_); rintro e w2 ⟨rfl, hx2⟩; have b2 := Ext.blk hx2 b1; have d2 : w2.cell? ⟨w.heap.size, 3, none⟩ = some (.int .i64 qty) := b2.cell 3)
      | (go_at_call 104; (with_reducible refine (K3.out _).mono ?_); rintro e w3 ⟨rfl, hx3⟩; have b3 := Ext.blk hx3 b2; have d3 : w3.cell? ⟨w.heap.size, 4, none⟩ = some (.int .i64 price) := b3.cell 4)
      | (go_at_call 104; (with_reducible refine (K4.out _).mono ?_); rintro e w4 ⟨rfl, hx4⟩))
    go_ret
    exact ⟨by simp, (by repeat (first | with_reducible exact Below.refl _ _ | with_reducible assumption | with_reducible refine ExtD ?_ | with_reducible refine ExtDN ?_ | with_reducible refine ExtA ?_ | (with_reducible refine ExtR ?_ ?_; (first | omega | (dsimp only; omega) | (simp; done) | (simp; omega))) | (with_reducible refine ExtS ?_ ?_; (first | omega | (dsimp only; omega) | (simp; done) | (simp; omega))) | with_reducible refine Ext.tr ?_ (by with_reducible assumption)))⟩
set_option maxRecDepth 100000 in
set_option maxHeartbeats 2000000 in
theorem fits2_any (e : Ev) (w : World) :
    Calls Tryz.prog 106 #[.agg (v2cells e)] w fun e' w' => e' = .returned (.bool (wi e.order 1 1099511627776 && wi e.item 0 65535 && wi e.qty (-10000) 10000 && wi e.price 0 100000000 && wi e.cur 0 3)) ∧ Ext w w' := by
  have K1 := Lib.hid fun W => core_any e (-10000) 100000000 W
  have K2 := Lib.hid fun W => swithin_any e.cur 0 3 W
  generalize (wi e.order 1 1099511627776 && wi e.item 0 65535 && wi e.qty (-10000) 10000 && wi e.price 0 100000000) = B1 at *
  generalize wi e.cur 0 3 = B2 at *
  obtain ⟨kind, order, item, qty, price, cur, tax, who, stamp, note⟩ := e
  unfold v1cells at K1
  unfold v2cells
  dsimp only at *
  cases B1
  all_goals
    go_enter Tryz.func106, Tryz.ntmps106
    go_wp2_with (first
      | (go_at_call 103; go_must (with_reducible refine (K1.out _).mono ?_); rintro e w1 ⟨rfl, hx1⟩; have d1 : w1.cell? ⟨w.heap.size, 5, none⟩ = some (.int .i64 cur) := (Ext.blk hx1 (BlkN rfl)).cell 5)
      | (go_at_call 104; (with_reducible refine (K2.out _).mono ?_); rintro e w2 ⟨rfl, hx2⟩))
    go_ret
    exact ⟨by simp, (by repeat (first | with_reducible exact Below.refl _ _ | with_reducible assumption | with_reducible refine ExtD ?_ | with_reducible refine ExtDN ?_ | with_reducible refine ExtA ?_ | (with_reducible refine ExtR ?_ ?_; (first | omega | (dsimp only; omega) | (simp; done) | (simp; omega))) | (with_reducible refine ExtS ?_ ?_; (first | omega | (dsimp only; omega) | (simp; done) | (simp; omega))) | with_reducible refine Ext.tr ?_ (by with_reducible assumption)))⟩
set_option maxRecDepth 100000 in
set_option maxHeartbeats 2000000 in
theorem fits3_any (e : Ev) (w : World) :
    Calls Tryz.prog 109 #[.agg (v3cells e)] w fun e' w' => e' = .returned (.bool (wi e.order 1 1099511627776 && wi e.item 0 65535 && wi e.qty (-10000) 10000 && wi e.price 0 100000000 && wi e.cur 0 3 && decide (0 ≤ e.qty) && wi e.tax 0 5000)) ∧ Ext w w' := by
  have K1 := Lib.hid fun W => fits2_any e W
  have K2 := Lib.hid fun W => swithin_any e.tax 0 5000 W
  generalize (wi e.order 1 1099511627776 && wi e.item 0 65535 && wi e.qty (-10000) 10000 && wi e.price 0 100000000 && wi e.cur 0 3) = B1 at *
  generalize wi e.tax 0 5000 = B2 at *
  obtain ⟨kind, order, item, qty, price, cur, tax, who, stamp, note⟩ := e
  unfold v2cells at K1
  unfold v3cells
  dsimp only at *
  cases B1
  · go_enter Tryz.func109, Tryz.ntmps109
    go_wp2_with (first
      | (go_at_call 106; go_must (with_reducible refine (K1.out _).mono ?_); rintro e w1 ⟨rfl, hx1⟩; have b1 : Blk w1 w.heap.size 114 #[.int .i64 kind, .int .i64 order, .int .i64 item, .int .i64 qty, .int .i64 price, .int .i64 cur, .int .i64 tax] := Ext.blk hx1 (BlkN rfl); have d1 : w1.cell? ⟨w.heap.size, 3, none⟩ = some (.int .i64 qty) := b1.cell 3; have d2 : w1.cell? ⟨w.heap.size, 6, none⟩ = some (.int .i64 tax) := b1.cell 6)
      | (go_at_call 104; (with_reducible refine (K2.out _).mono ?_); rintro e w2 ⟨rfl, hx2⟩))
    go_ret
    exact ⟨by simp, (by repeat (first | with_reducible exact Below.refl _ _ | with_reducible assumption | with_reducible refine ExtD ?_ | with_reducible refine ExtDN ?_ | with_reducible refine ExtA ?_ | (with_reducible refine ExtR ?_ ?_; (first | omega | (dsimp only; omega) | (simp; done) | (simp; omega))) | (with_reducible refine ExtS ?_ ?_; (first | omega | (dsimp only; omega) | (simp; done) | (simp; omega))) | with_reducible refine Ext.tr ?_ (by with_reducible assumption)))⟩
  by_cases hq : 0 ≤ qty
  all_goals
    go_enter Tryz.func109, Tryz.ntmps109
    go_wp2_with (first
      | (go_at_call 106; go_must (with_reducible refine (K1.out _).mono ?_); rintro e w1 ⟨rfl, hx1⟩; have b1 : Blk w1 w.heap.size 114 #[.int .i64 kind, .int .i64 order, .int .i64 item, .int .i64 qty, .int .i64 price, .int .i64 cur, .int .i64 tax] := Ext.blk hx1 (BlkN rfl); have d1 : w1.cell? ⟨w.heap.size, 3, none⟩ = some (.int .i64 qty) := b1.cell 3; have d2 : w1.cell? ⟨w.heap.size, 6, none⟩ = some (.int .i64 tax) := b1.cell 6)
      | (go_at_call 104; (with_reducible refine (K2.out _).mono ?_); rintro e w2 ⟨rfl, hx2⟩))
    go_ret
    exact ⟨by first | (simp [hq]; done) | (simp; done) | (simp; intros; omega), (by repeat (first | with_reducible exact Below.refl _ _ | with_reducible assumption | with_reducible refine ExtD ?_ | with_reducible refine ExtDN ?_ | with_reducible refine ExtA ?_ | (with_reducible refine ExtR ?_ ?_; (first | omega | (dsimp only; omega) | (simp; done) | (simp; omega))) | (with_reducible refine ExtS ?_ ?_; (first | omega | (dsimp only; omega) | (simp; done) | (simp; omega))) | with_reducible refine Ext.tr ?_ (by with_reducible assumption)))⟩
set_option maxRecDepth 100000 in
set_option maxHeartbeats 2000000 in
theorem fits4_any (e : Ev) (w : World) (hn : e.who.size ≤ 4611686018427387904) :
    Calls Tryz.prog 113 #[.agg (v4cells e)] w fun e' w' => e' = .returned (.bool (wi e.order 1 1099511627776 && wi e.item 0 65535 && wi e.qty (-10000) 10000 && wi e.price 0 100000000 && wi e.cur 0 3 && decide (0 ≤ e.qty) && wi e.tax 0 5000 && plainB e.who)) ∧ Ext w w' := by
  have K1 := Lib.hid fun W => fits3_any e W
  have K2 := Lib.hid fun W => plain_any e.who W hn
  generalize (wi e.order 1 1099511627776 && wi e.item 0 65535 && wi e.qty (-10000) 10000 && wi e.price 0 100000000 && wi e.cur 0 3 && decide (0 ≤ e.qty) && wi e.tax 0 5000) = B1 at *
  generalize plainB e.who = B2 at *
  obtain ⟨kind, order, item, qty, price, cur, tax, who, stamp, note⟩ := e
  unfold v3cells at K1
  unfold v4cells
  dsimp only at *
  cases B1
  all_goals
    go_enter Tryz.func113, Tryz.ntmps113
    go_wp2_with (first
      | (go_at_call 109; go_must (with_reducible refine (K1.out _).mono ?_); rintro e w1 ⟨rfl, hx1⟩; have d1 : w1.cell? ⟨w.heap.size, 7, none⟩ = some (.string who) := (Ext.blk hx1 (BlkN rfl)).cell 7)
      | (go_at_call 116; (with_reducible refine (K2.out _).mono ?_); rintro e w2 ⟨rfl, hx2⟩))
    go_ret
    exact ⟨by simp, (by repeat (first | with_reducible exact Below.refl _ _ | with_reducible assumption | with_reducible refine ExtD ?_ | with_reducible refine ExtDN ?_ | with_reducible refine ExtA ?_ | (with_reducible refine ExtR ?_ ?_; (first | omega | (dsimp only; omega) | (simp; done) | (simp; omega))) | (with_reducible refine ExtS ?_ ?_; (first | omega | (dsimp only; omega) | (simp; done) | (simp; omega))) | with_reducible refine Ext.tr ?_ (by with_reducible assumption)))⟩
def fitsB (e : Ev) : Bool := wi e.order 1 1099511627776 && wi e.item 0 65535 && wi e.qty 0 10000 && wi e.price 0 100000000 && wi e.cur 0 3 && wi e.tax 0 5000 && plainB e.who && wi e.stamp 0 1099511627776
theorem fits_eq (e : Ev) : (wi e.order 1 1099511627776 && wi e.item 0 65535 && wi e.qty (-10000) 10000 && wi e.price 0 100000000 && wi e.cur 0 3 && decide (0 ≤ e.qty) && wi e.tax 0 5000 && plainB e.who && wi e.stamp 0 1099511627776) = fitsB e := by
  have h : (wi e.qty (-10000) 10000 && decide (0 ≤ e.qty)) = wi e.qty 0 10000 := by
    rw [Bool.eq_iff_iff, and_t, wi_iff, wi_iff, decide_eq_true_eq]; omega
  unfold fitsB
  rw [← h]
  generalize wi e.order 1 1099511627776 = a
  generalize wi e.item 0 65535 = b
  generalize wi e.qty (-10000) 10000 = c
  generalize wi e.price 0 100000000 = d
  generalize wi e.cur 0 3 = f
  generalize decide (0 ≤ e.qty) = g
  cases a <;> cases b <;> cases c <;> cases d <;> cases f <;> cases g <;> rfl
set_option maxRecDepth 100000 in
set_option maxHeartbeats 2000000 in
theorem fits5_any (e : Ev) (w : World) (hn : e.who.size ≤ 4611686018427387904) :
    Calls Tryz.prog 118 #[.agg (evcells e)] w fun e' w' => e' = .returned (.bool (fitsB e)) ∧ Ext w w' := by
  have K1 := Lib.hid fun W => fits4_any e W hn
  have K2 := Lib.hid fun W => swithin_any e.stamp 0 1099511627776 W
  rw [← fits_eq]
  generalize (wi e.order 1 1099511627776 && wi e.item 0 65535 && wi e.qty (-10000) 10000 && wi e.price 0 100000000 && wi e.cur 0 3 && decide (0 ≤ e.qty) && wi e.tax 0 5000 && plainB e.who) = B1 at *
  generalize wi e.stamp 0 1099511627776 = B2 at *
  obtain ⟨kind, order, item, qty, price, cur, tax, who, stamp, note⟩ := e
  unfold v4cells at K1
  unfold evcells
  dsimp only at *
  cases B1
  all_goals
    go_enter Tryz.func118, Tryz.ntmps118
    go_wp2_with (first
      | (go_at_call 113; go_must (with_reducible refine (K1.out _).mono ?_); rintro e w1 ⟨rfl, hx1⟩; have d1 : w1.cell? ⟨w.heap.size, 8, none⟩ = some (.int .i64 stamp) := (Ext.blk hx1 (BlkN rfl)).cell 8)
      | (go_at_call 104; (with_reducible refine (K2.out _).mono ?_); rintro e w2 ⟨rfl, hx2⟩))
    go_ret
    exact ⟨by simp, (by repeat (first | with_reducible exact Below.refl _ _ | with_reducible assumption | with_reducible refine ExtD ?_ | with_reducible refine ExtDN ?_ | with_reducible refine ExtA ?_ | (with_reducible refine ExtR ?_ ?_; (first | omega | (dsimp only; omega) | (simp; done) | (simp; omega))) | (with_reducible refine ExtS ?_ ?_; (first | omega | (dsimp only; omega) | (simp; done) | (simp; omega))) | with_reducible refine Ext.tr ?_ (by with_reducible assumption)))⟩
end Go.Proofs.YtjomgppbialeoaaGreat

namespace Go.Proofs.YtjomgppbialeoaaGreat
open Go.RowKit
set_option linter.unusedVariables false
set_option linter.unusedSimpArgs false
theorem ev_one (e : Ev) : ∀ v ∈ (evcells e).toList, v.oneCell' = true := by
  intro v hv; simp [evcells] at hv; rcases hv with rfl | rfl | rfl | rfl | rfl | rfl | rfl | rfl | rfl | rfl <;> rfl
theorem ev_one' (a b c d f g h : Int) (s : ByteArray) (i : Int) (t : ByteArray) : ∀ v ∈ (#[.int .i64 a, .int .i64 b, .int .i64 c, .int .i64 d, .int .i64 f, .int .i64 g, .int .i64 h, .string s, .int .i64 i, .string t] : Array Value).toList, v.oneCell' = true := ev_one ⟨a, b, c, d, f, g, h, s, i, t⟩
theorem ev_size' (a b c d f g h : Int) (s : ByteArray) (i : Int) (t : ByteArray) : (#[.int .i64 a, .int .i64 b, .int .i64 c, .int .i64 d, .int .i64 f, .int .i64 g, .int .i64 h, .string s, .int .i64 i, .string t] : Array Value).size = 10 := rfl
set_option maxRecDepth 100000 in
set_option maxHeartbeats 2000000 in
theorem event1_any (e : Ev) (w : World) :
    Calls Tryz.prog 98 #[.agg (v1cells e)] w fun e' w' => e' = .returned (.agg (evcells ⟨e.kind, e.order, e.item, e.qty, e.price, 0, 0, ⟨#[]⟩, 0, ⟨#[]⟩⟩)) ∧ Ext w w' := by
  obtain ⟨kind, order, item, qty, price, cur, tax, who, stamp, note⟩ := e
  unfold v1cells evcells
  dsimp only
  go_enter Tryz.func98, Tryz.ntmps98
  go_wp2_with fail
  go_returns
  exact ⟨rfl, (by repeat (first | with_reducible exact Below.refl _ _ | with_reducible assumption | with_reducible refine ExtD ?_ | with_reducible refine ExtDN ?_ | with_reducible refine ExtA ?_ | (with_reducible refine ExtR ?_ ?_; (first | omega | (dsimp only; omega) | (simp; done) | (simp; omega))) | (with_reducible refine ExtS ?_ ?_; (first | omega | (dsimp only; omega) | (simp; done) | (simp; omega))) | with_reducible refine Ext.tr ?_ (by with_reducible assumption)))⟩
set_option maxRecDepth 100000 in
set_option maxHeartbeats 2000000 in
theorem event2_any (e : Ev) (w : World) :
    Calls Tryz.prog 105 #[.agg (v2cells e)] w fun e' w' => e' = .returned (.agg (evcells ⟨e.kind, e.order, e.item, e.qty, e.price, e.cur, 0, ⟨#[]⟩, 0, ⟨#[]⟩⟩)) ∧ Ext w w' := by
  have K1 := Lib.hid fun W => event1_any e W
  obtain ⟨kind, order, item, qty, price, cur, tax, who, stamp, note⟩ := e
  unfold v1cells evcells at K1
  unfold v2cells evcells
  dsimp only at *
  go_enter Tryz.func105, Tryz.ntmps105
  go_wp2_with (first
    | (go_at_call 98; go_must (with_reducible refine (K1.out _).mono ?_); rintro e w1 ⟨rfl, hx1⟩; have b1 : Blk w1 w.heap.size 112 #[.int .i64 kind, .int .i64 order, .int .i64 item, .int .i64 qty, .int .i64 price, .int .i64 cur] := Ext.blk hx1 (BlkA (BlkN rfl)); have b2 : Blk w1 (w.heap.size + 1) 38 #[.int .i64 0, .int .i64 0, .int .i64 0, .int .i64 0, .int .i64 0, .int .i64 0, .int .i64 0, .string ⟨#[]⟩, .int .i64 0, .string ⟨#[]⟩] := Ext.blk hx1 (BlkN (by simp)); have d5 : ∀ ob, (w1.alloc ob).cell? ⟨w.heap.size, 5, none⟩ = some (.int .i64 cur) := fun ob => (BlkA b1).cell 5)
    | ((with_reducible refine wpL_store_row rfl 38 (.tmp 2) (.tmp 10) rfl _ 38 _ _ rfl rfl (BlkA b2) ((ev_size' _ _ _ _ _ _ _ _ _ _).trans (ev_size' _ _ _ _ _ _ _ _ _ _).symm) (ev_one' _ _ _ _ _ _ _ _ _ _) 10 ev_wide (ev_size' _ _ _ _ _ _ _ _ _ _) ?_)))
  refine bodyPost_ret (res_row rfl _ _ _ 38 _ 10 rfl ((BlkA b2).setRow_) ev_wide rfl) rfl ?_
  exact ⟨rfl, (by repeat (first | with_reducible exact Below.refl _ _ | with_reducible assumption | with_reducible refine ExtD ?_ | with_reducible refine ExtDN ?_ | with_reducible refine ExtA ?_ | (with_reducible refine ExtR ?_ ?_; (first | omega | (dsimp only; omega) | (simp; done) | (simp; omega))) | (with_reducible refine ExtS ?_ ?_; (first | omega | (dsimp only; omega) | (simp; done) | (simp; omega))) | with_reducible refine Ext.tr ?_ (by with_reducible assumption)))⟩
set_option maxRecDepth 100000 in
set_option maxHeartbeats 2000000 in
theorem event3_any (e : Ev) (w : World) :
    Calls Tryz.prog 108 #[.agg (v3cells e)] w fun e' w' => e' = .returned (.agg (evcells ⟨e.kind, e.order, e.item, e.qty, e.price, e.cur, e.tax, ⟨#[]⟩, 0, ⟨#[]⟩⟩)) ∧ Ext w w' := by
  have K1 := Lib.hid fun W => event2_any e W
  obtain ⟨kind, order, item, qty, price, cur, tax, who, stamp, note⟩ := e
  unfold v2cells evcells at K1
  unfold v3cells evcells
  dsimp only at *
  go_enter Tryz.func108, Tryz.ntmps108
  go_wp2_with (first
    | (go_at_call 105; go_must (with_reducible refine (K1.out _).mono ?_); rintro e w1 ⟨rfl, hx1⟩; have b1 : Blk w1 w.heap.size 114 #[.int .i64 kind, .int .i64 order, .int .i64 item, .int .i64 qty, .int .i64 price, .int .i64 cur, .int .i64 tax] := Ext.blk hx1 (BlkA (BlkN rfl)); have b2 : Blk w1 (w.heap.size + 1) 38 #[.int .i64 0, .int .i64 0, .int .i64 0, .int .i64 0, .int .i64 0, .int .i64 0, .int .i64 0, .string ⟨#[]⟩, .int .i64 0, .string ⟨#[]⟩] := Ext.blk hx1 (BlkN (by simp)); have d6 : ∀ ob, (w1.alloc ob).cell? ⟨w.heap.size, 6, none⟩ = some (.int .i64 tax) := fun ob => (BlkA b1).cell 6)
    | ((with_reducible refine wpL_store_row rfl 38 (.tmp 2) (.tmp 10) rfl _ 38 _ _ rfl rfl (BlkA b2) ((ev_size' _ _ _ _ _ _ _ _ _ _).trans (ev_size' _ _ _ _ _ _ _ _ _ _).symm) (ev_one' _ _ _ _ _ _ _ _ _ _) 10 ev_wide (ev_size' _ _ _ _ _ _ _ _ _ _) ?_)))
  refine bodyPost_ret (res_row rfl _ _ _ 38 _ 10 rfl ((BlkA b2).setRow_) ev_wide rfl) rfl ?_
  exact ⟨rfl, (by repeat (first | with_reducible exact Below.refl _ _ | with_reducible assumption | with_reducible refine ExtD ?_ | with_reducible refine ExtDN ?_ | with_reducible refine ExtA ?_ | (with_reducible refine ExtR ?_ ?_; (first | omega | (dsimp only; omega) | (simp; done) | (simp; omega))) | (with_reducible refine ExtS ?_ ?_; (first | omega | (dsimp only; omega) | (simp; done) | (simp; omega))) | with_reducible refine Ext.tr ?_ (by with_reducible assumption)))⟩
set_option maxRecDepth 100000 in
set_option maxHeartbeats 2000000 in
theorem event4_any (e : Ev) (w : World) :
    Calls Tryz.prog 112 #[.agg (v4cells e)] w fun e' w' => e' = .returned (.agg (evcells ⟨e.kind, e.order, e.item, e.qty, e.price, e.cur, e.tax, e.who, 0, ⟨#[]⟩⟩)) ∧ Ext w w' := by
  have K1 := Lib.hid fun W => event3_any e W
  obtain ⟨kind, order, item, qty, price, cur, tax, who, stamp, note⟩ := e
  unfold v3cells evcells at K1
  unfold v4cells evcells
  dsimp only at *
  go_enter Tryz.func112, Tryz.ntmps112
  go_wp2_with (first
    | (go_at_call 108; go_must (with_reducible refine (K1.out _).mono ?_); rintro e w1 ⟨rfl, hx1⟩; have b1 : Blk w1 w.heap.size 116 #[.int .i64 kind, .int .i64 order, .int .i64 item, .int .i64 qty, .int .i64 price, .int .i64 cur, .int .i64 tax, .string who] := Ext.blk hx1 (BlkA (BlkN rfl)); have b2 : Blk w1 (w.heap.size + 1) 38 #[.int .i64 0, .int .i64 0, .int .i64 0, .int .i64 0, .int .i64 0, .int .i64 0, .int .i64 0, .string ⟨#[]⟩, .int .i64 0, .string ⟨#[]⟩] := Ext.blk hx1 (BlkN (by simp)); have d7 : ∀ ob, (w1.alloc ob).cell? ⟨w.heap.size, 7, none⟩ = some (.string who) := fun ob => (BlkA b1).cell 7)
    | ((with_reducible refine wpL_store_row rfl 38 (.tmp 2) (.tmp 10) rfl _ 38 _ _ rfl rfl (BlkA b2) ((ev_size' _ _ _ _ _ _ _ _ _ _).trans (ev_size' _ _ _ _ _ _ _ _ _ _).symm) (ev_one' _ _ _ _ _ _ _ _ _ _) 10 ev_wide (ev_size' _ _ _ _ _ _ _ _ _ _) ?_)))
  refine bodyPost_ret (res_row rfl _ _ _ 38 _ 10 rfl ((BlkA b2).setRow_) ev_wide rfl) rfl ?_
  exact ⟨rfl, (by repeat (first | with_reducible exact Below.refl _ _ | with_reducible assumption | with_reducible refine ExtD ?_ | with_reducible refine ExtDN ?_ | with_reducible refine ExtA ?_ | (with_reducible refine ExtR ?_ ?_; (first | omega | (dsimp only; omega) | (simp; done) | (simp; omega))) | (with_reducible refine ExtS ?_ ?_; (first | omega | (dsimp only; omega) | (simp; done) | (simp; omega))) | with_reducible refine Ext.tr ?_ (by with_reducible assumption)))⟩
set_option maxRecDepth 100000 in
set_option maxHeartbeats 2000000 in
theorem event5_any (e : Ev) (w : World) :
    Calls Tryz.prog 117 #[.agg (evcells e)] w fun e' w' => e' = .returned (.agg (evcells ⟨e.kind, e.order, e.item, e.qty, e.price, e.cur, e.tax, e.who, e.stamp, e.note⟩)) ∧ Ext w w' := by
  have K1 := Lib.hid fun W => event4_any e W
  obtain ⟨kind, order, item, qty, price, cur, tax, who, stamp, note⟩ := e
  unfold v4cells evcells at K1
  unfold evcells
  dsimp only at *
  go_enter Tryz.func117, Tryz.ntmps117
  go_wp2_with (first
    | (go_at_call 112; go_must (with_reducible refine (K1.out _).mono ?_); rintro e w1 ⟨rfl, hx1⟩; have b1 : Blk w1 w.heap.size 118 #[.int .i64 kind, .int .i64 order, .int .i64 item, .int .i64 qty, .int .i64 price, .int .i64 cur, .int .i64 tax, .string who, .int .i64 stamp, .string note] := Ext.blk hx1 (BlkA (BlkN rfl)); have b2 : Blk w1 (w.heap.size + 1) 38 #[.int .i64 0, .int .i64 0, .int .i64 0, .int .i64 0, .int .i64 0, .int .i64 0, .int .i64 0, .string ⟨#[]⟩, .int .i64 0, .string ⟨#[]⟩] := Ext.blk hx1 (BlkN (by simp)); have d8 : ∀ ob, (w1.alloc ob).cell? ⟨w.heap.size, 8, none⟩ = some (.int .i64 stamp) := fun ob => (BlkA b1).cell 8; have d9 : ∀ ob, (w1.alloc ob).cell? ⟨w.heap.size, 9, none⟩ = some (.string note) := fun ob => (BlkA b1).cell 9)
    | ((with_reducible refine wpL_store_row rfl 38 (.tmp 2) (.tmp 13) rfl _ 38 _ _ rfl rfl (BlkA b2) ((ev_size' _ _ _ _ _ _ _ _ _ _).trans (ev_size' _ _ _ _ _ _ _ _ _ _).symm) (ev_one' _ _ _ _ _ _ _ _ _ _) 10 ev_wide (ev_size' _ _ _ _ _ _ _ _ _ _) ?_)))
  refine bodyPost_ret (res_row rfl _ _ _ 38 _ 10 rfl ((BlkA b2).setRow_) ev_wide rfl) rfl ?_
  exact ⟨rfl, (by repeat (first | with_reducible exact Below.refl _ _ | with_reducible assumption | with_reducible refine ExtD ?_ | with_reducible refine ExtDN ?_ | with_reducible refine ExtA ?_ | (with_reducible refine ExtR ?_ ?_; (first | omega | (dsimp only; omega) | (simp; done) | (simp; omega))) | (with_reducible refine ExtS ?_ ?_; (first | omega | (dsimp only; omega) | (simp; done) | (simp; omega))) | with_reducible refine Ext.tr ?_ (by with_reducible assumption)))⟩
theorem lift_any (e : Ev) (w : World) :
    Calls Tryz.prog 76 #[.agg (evcells e)] w fun e' w' => e' = .returned (.agg (evcells e)) ∧ Ext w w' := by
  obtain ⟨kind, order, item, qty, price, cur, tax, who, stamp, note⟩ := e
  unfold evcells
  dsimp only
  go_enter Tryz.func76, Tryz.ntmps76
  go_wp2_with fail
  go_returns
  exact ⟨rfl, (by repeat (first | with_reducible exact Below.refl _ _ | with_reducible assumption | with_reducible refine ExtD ?_ | with_reducible refine ExtDN ?_ | with_reducible refine ExtA ?_ | (with_reducible refine ExtR ?_ ?_; (first | omega | (dsimp only; omega) | (simp; done) | (simp; omega))) | (with_reducible refine ExtS ?_ ?_; (first | omega | (dsimp only; omega) | (simp; done) | (simp; omega))) | with_reducible refine Ext.tr ?_ (by with_reducible assumption)))⟩
theorem last5_any (e : Ev) (w : World) :
    Calls Tryz.prog 119 #[.agg (evcells e)] w fun e' w' => e' = .returned (.int .i64 10) ∧ Ext w w' := by
  obtain ⟨kind, order, item, qty, price, cur, tax, who, stamp, note⟩ := e
  unfold evcells
  dsimp only
  go_enter Tryz.func119, Tryz.ntmps119
  go_wp2_with fail
  go_ret
  exact ⟨rfl, (by repeat (first | with_reducible exact Below.refl _ _ | with_reducible assumption | with_reducible refine ExtD ?_ | with_reducible refine ExtDN ?_ | with_reducible refine ExtA ?_ | (with_reducible refine ExtR ?_ ?_; (first | omega | (dsimp only; omega) | (simp; done) | (simp; omega))) | (with_reducible refine ExtS ?_ ?_; (first | omega | (dsimp only; omega) | (simp; done) | (simp; omega))) | with_reducible refine Ext.tr ?_ (by with_reducible assumption)))⟩
end Go.Proofs.YtjomgppbialeoaaGreat
