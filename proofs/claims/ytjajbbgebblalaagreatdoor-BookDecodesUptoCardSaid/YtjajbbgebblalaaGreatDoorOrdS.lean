/-
  The walks of schema.within, plain, the versions' fits and Event.
-/
/-
  The walks of the versions' Event, Lift, typed and Check at version 5; order.named.
-/
/-
  The walks of schema.typed and Check at version 5; order.named.
-/
/-
  The walks of order.named, bounded.
-/
/-
  The walk of order.Valid.
-/
import Derived.Test.YtjajbbgebblalaaGreatDoorShrT
import Derived.Test.YtjajbbgebblalaaGreatDoorOrdW
import Derived.Handy
import Derived.Deep.RegionHeld3
namespace Go.Proofs.YtjajbbgebblalaaGreatDoor
open Go.RowKit
set_option linter.unusedVariables false
set_option linter.unusedSimpArgs false
theorem swithin_any (x lo hi : Int) (w : World) : Calls Tryz.prog 279 #[.int .i64 x, .int .i64 lo, .int .i64 hi] w fun e w' => e = .returned (.bool (wi x lo hi)) ∧ Ext w w' := by
  have Hv : Hid (wi x lo hi = decide (lo ≤ x ∧ x ≤ hi)) := Lib.hid rfl
  by_cases h1 : lo ≤ x
  · go_enter Tryz.func279, Tryz.ntmps279
    go_wp2_with fail
    go_ret
    exact ⟨by rw [Hv.out]; simp [h1], exA⟩
  · go_enter Tryz.func279, Tryz.ntmps279
    go_wp2_with fail
    go_ret
    exact ⟨by rw [Hv.out]; simp; omega, exA⟩
def pcB (c : UInt8) : Bool := c == 45 || (48 ≤ c && c ≤ 57) || (97 ≤ c && c ≤ 122)
theorem pcB_iff (c : UInt8) : pcB c = true ↔ c.toNat = 45 ∨ (48 ≤ c.toNat ∧ c.toNat ≤ 57) ∨ (97 ≤ c.toNat ∧ c.toNat ≤ 122) := by
  unfold pcB
  simp [UInt8.le_iff_toNat_le, ← UInt8.toNat_inj, or_assoc]
theorem plain_eq (s : ByteArray) : plainB s = s.data.toList.all pcB := rfl
theorem plain_next {s : ByteArray} {k : Nat} (hk : k < s.size) (h : (s.data.toList.take k).all pcB = true) (hc : pcB s[k] = true) : (s.data.toList.take (k + 1)).all pcB = true := by
  have hk2 : k < s.data.toList.length := by simpa using hk
  rw [List.take_succ_eq_append_getElem hk2, List.all_append, h]
  simp only [List.all_cons, List.all_nil, Bool.and_true, Bool.true_and]
  exact hc
theorem plain_bad {s : ByteArray} {k : Nat} (hk : k < s.size) (hc : pcB s[k] = false) : plainB s = false := by
  rw [plain_eq, List.all_eq_false]
  exact ⟨s[k], by rw [Array.mem_toList_iff]; exact Array.getElem_mem _, by simpa using hc⟩
def plainR (W : World) (s : ByteArray) (c7 : Value) (wr : World) : Prop :=
  ∃ k : Nat, c7 = .int .i64 (k : Nat) ∧ k ≤ s.size ∧ (s.data.toList.take k).all pcB = true ∧ Ext W wr
set_option maxRecDepth 100000 in
set_option maxHeartbeats 2000000 in
theorem plain_any (s : ByteArray) (w : World) (hn : s.size ≤ 4611686018427387904) :
    Calls Tryz.prog 291 #[.string s] w fun e w' => e = .returned (.bool (plainB s)) ∧ Ext w w' := by
  go_enter Tryz.func291, Tryz.ntmps291
  go_wp2_with fail
  go_loopw [7] (fun c7 wr => plainR w s c7 wr) (fun c7 _ => s.size - (intOf c7).toNat)
  case atStart => exact ⟨0, rfl, by omega, rfl, exA⟩
  case round =>
    obtain ⟨k, rfl, hk, hp, hx⟩ := hrel
    have Hp := Lib.hid hp
    clear hp
    by_cases hlt : k < s.size
    · have Hi := Lib.hid (pcB_iff s[k])
      go_wp2_with fail
      all_goals first
        | (refine And.intro ?_ ?_
           · exact ⟨k + 1, by go_num, by omega, plain_next hlt Hp.out (Hi.out.2 (by simp at *; omega)), exA⟩
           · simp [intOf]; omega)
        | (go_ret
           refine ⟨?_, exA⟩
           have hb : pcB s[k] = false := by
             cases hb : pcB s[k] with
             | false => rfl
             | true => exfalso; have := Hi.out.1 hb; simp at *; omega
           rw [plain_bad hlt hb]; rfl)
    · have hk2 : k = s.size := by omega
      have Hv : Hid (plainB s = true) := Lib.hid (by
        have h := Hp.out
        rw [List.take_of_length_le (by simp; have : s.data.size = s.size := rfl; omega)] at h
        exact h)
      clear Hp
      subst hk2
      go_wp2_with fail
      go_ret
      exact ⟨by rw [Hv.out]; rfl, exA⟩
def v1cells (e : Ev) : Array Value := #[.int .i64 e.kind, .int .i64 e.order, .int .i64 e.item, .int .i64 e.qty, .int .i64 e.price]
def v2cells (e : Ev) : Array Value := #[.int .i64 e.kind, .int .i64 e.order, .int .i64 e.item, .int .i64 e.qty, .int .i64 e.price, .int .i64 e.cur]
def v3cells (e : Ev) : Array Value := #[.int .i64 e.kind, .int .i64 e.order, .int .i64 e.item, .int .i64 e.qty, .int .i64 e.price, .int .i64 e.cur, .int .i64 e.tax]
def v4cells (e : Ev) : Array Value := #[.int .i64 e.kind, .int .i64 e.order, .int .i64 e.item, .int .i64 e.qty, .int .i64 e.price, .int .i64 e.cur, .int .i64 e.tax, .string e.who]
set_option maxRecDepth 100000 in
set_option maxHeartbeats 2000000 in
theorem core_any (e : Ev) (least dear : Int) (w : World) :
    Calls Tryz.prog 278 #[.agg (v1cells e), .int .i64 least, .int .i64 dear] w fun e' w' => e' = .returned (.bool (wi e.order 1 1099511627776 && wi e.item 0 65535 && wi e.qty least 10000 && wi e.price 0 dear)) ∧ Ext w w' := by
  obtain ⟨kind, order, item, qty, price, cur, tax, who, stamp, note⟩ := e
  unfold v1cells
  dsimp only
  obtain ⟨B1, hB1⟩ : ∃ b, b = wi order 1 1099511627776 := ⟨_, rfl⟩
  obtain ⟨B2, hB2⟩ : ∃ b, b = wi item 0 65535 := ⟨_, rfl⟩
  obtain ⟨B3, hB3⟩ : ∃ b, b = wi qty least 10000 := ⟨_, rfl⟩
  obtain ⟨B4, hB4⟩ : ∃ b, b = wi price 0 dear := ⟨_, rfl⟩
  have K1 := Lib.hid fun W => swithin_any order 1 1099511627776 W
  have K2 := Lib.hid fun W => swithin_any item 0 65535 W
  have K3 := Lib.hid fun W => swithin_any qty least 10000 W
  have K4 := Lib.hid fun W => swithin_any price 0 dear W
  rw [← hB1] at K1
  rw [← hB2] at K2
  rw [← hB3] at K3
  rw [← hB4] at K4
  rw [← hB1, ← hB2, ← hB3, ← hB4]
  clear hB1 hB2 hB3 hB4
  have hc : B1 = false ∨ (B1 = true ∧ B2 = false) ∨ (B1 = true ∧ B2 = true ∧ B3 = false) ∨ (B1 = true ∧ B2 = true ∧ B3 = true) := by cases B1 <;> cases B2 <;> cases B3 <;> simp
  rcases hc with rfl | ⟨rfl, rfl⟩ | ⟨rfl, rfl, rfl⟩ | ⟨rfl, rfl, rfl⟩
  all_goals
    go_enter Tryz.func278, Tryz.ntmps278
    go_wp2_with (first
      | (go_at_call 279; (with_reducible refine (K1.out _).mono ?_); rintro e w1 ⟨rfl, hx1⟩; have b1 : Blk w1 w.heap.size 327 #[.int .i64 kind, .int .i64 order, .int .i64 item, .int .i64 qty, .int .i64 price] := Ext.blk hx1 (BlkN rfl); have d1 : w1.cell? ⟨w.heap.size, 2, none⟩ = some (.int .i64 item) := b1.cell 2)
      | (go_at_call 279; (with_reducible refine (K2.out _).mono ?_); rintro e w2 ⟨rfl, hx2⟩; have b2 := Ext.blk hx2 b1; have d2 : w2.cell? ⟨w.heap.size, 3, none⟩ = some (.int .i64 qty) := b2.cell 3)
      | (go_at_call 279; (with_reducible refine (K3.out _).mono ?_); rintro e w3 ⟨rfl, hx3⟩; have b3 := Ext.blk hx3 b2; have d3 : w3.cell? ⟨w.heap.size, 4, none⟩ = some (.int .i64 price) := b3.cell 4)
      | (go_at_call 279; (with_reducible refine (K4.out _).mono ?_); rintro e w4 ⟨rfl, hx4⟩))
    go_ret
    exact ⟨by simp, exA⟩
set_option maxRecDepth 100000 in
set_option maxHeartbeats 2000000 in
theorem fits2_any (e : Ev) (w : World) :
    Calls Tryz.prog 281 #[.agg (v2cells e)] w fun e' w' => e' = .returned (.bool (wi e.order 1 1099511627776 && wi e.item 0 65535 && wi e.qty (-10000) 10000 && wi e.price 0 100000000 && wi e.cur 0 3)) ∧ Ext w w' := by
  have K1 := Lib.hid fun W => core_any e (-10000) 100000000 W
  have K2 := Lib.hid fun W => swithin_any e.cur 0 3 W
  generalize (wi e.order 1 1099511627776 && wi e.item 0 65535 && wi e.qty (-10000) 10000 && wi e.price 0 100000000) = B1 at *
  generalize wi e.cur 0 3 = B2 at *
  obtain ⟨kind, order, item, qty, price, cur, tax, who, stamp, note⟩ := e
  unfold v1cells at K1
  unfold v2cells
  dsimp only at *
  cases B1
  all_goals
    go_enter Tryz.func281, Tryz.ntmps281
    go_wp2_with (first
      | (go_at_call 278; go_must (with_reducible refine (K1.out _).mono ?_); rintro e w1 ⟨rfl, hx1⟩; have d1 : w1.cell? ⟨w.heap.size, 5, none⟩ = some (.int .i64 cur) := (Ext.blk hx1 (BlkN rfl)).cell 5)
      | (go_at_call 279; (with_reducible refine (K2.out _).mono ?_); rintro e w2 ⟨rfl, hx2⟩))
    go_ret
    exact ⟨by simp, exA⟩
set_option maxRecDepth 100000 in
set_option maxHeartbeats 2000000 in
theorem fits3_any (e : Ev) (w : World) :
    Calls Tryz.prog 284 #[.agg (v3cells e)] w fun e' w' => e' = .returned (.bool (wi e.order 1 1099511627776 && wi e.item 0 65535 && wi e.qty (-10000) 10000 && wi e.price 0 100000000 && wi e.cur 0 3 && decide (0 ≤ e.qty) && wi e.tax 0 5000)) ∧ Ext w w' := by
  have K1 := Lib.hid fun W => fits2_any e W
  have K2 := Lib.hid fun W => swithin_any e.tax 0 5000 W
  generalize (wi e.order 1 1099511627776 && wi e.item 0 65535 && wi e.qty (-10000) 10000 && wi e.price 0 100000000 && wi e.cur 0 3) = B1 at *
  generalize wi e.tax 0 5000 = B2 at *
  obtain ⟨kind, order, item, qty, price, cur, tax, who, stamp, note⟩ := e
  unfold v2cells at K1
  unfold v3cells
  dsimp only at *
  cases B1
  · go_enter Tryz.func284, Tryz.ntmps284
    go_wp2_with (first
      | (go_at_call 281; go_must (with_reducible refine (K1.out _).mono ?_); rintro e w1 ⟨rfl, hx1⟩; have b1 : Blk w1 w.heap.size 331 #[.int .i64 kind, .int .i64 order, .int .i64 item, .int .i64 qty, .int .i64 price, .int .i64 cur, .int .i64 tax] := Ext.blk hx1 (BlkN rfl); have d1 : w1.cell? ⟨w.heap.size, 3, none⟩ = some (.int .i64 qty) := b1.cell 3; have d2 : w1.cell? ⟨w.heap.size, 6, none⟩ = some (.int .i64 tax) := b1.cell 6)
      | (go_at_call 279; (with_reducible refine (K2.out _).mono ?_); rintro e w2 ⟨rfl, hx2⟩))
    go_ret
    exact ⟨by simp, exA⟩
  by_cases hq : 0 ≤ qty
  all_goals
    go_enter Tryz.func284, Tryz.ntmps284
    go_wp2_with (first
      | (go_at_call 281; go_must (with_reducible refine (K1.out _).mono ?_); rintro e w1 ⟨rfl, hx1⟩; have b1 : Blk w1 w.heap.size 331 #[.int .i64 kind, .int .i64 order, .int .i64 item, .int .i64 qty, .int .i64 price, .int .i64 cur, .int .i64 tax] := Ext.blk hx1 (BlkN rfl); have d1 : w1.cell? ⟨w.heap.size, 3, none⟩ = some (.int .i64 qty) := b1.cell 3; have d2 : w1.cell? ⟨w.heap.size, 6, none⟩ = some (.int .i64 tax) := b1.cell 6)
      | (go_at_call 279; (with_reducible refine (K2.out _).mono ?_); rintro e w2 ⟨rfl, hx2⟩))
    go_ret
    exact ⟨by first | (simp [hq]; done) | (simp; done) | (simp; intros; omega), exA⟩
set_option maxRecDepth 100000 in
set_option maxHeartbeats 2000000 in
theorem fits4_any (e : Ev) (w : World) (hn : e.who.size ≤ 4611686018427387904) :
    Calls Tryz.prog 288 #[.agg (v4cells e)] w fun e' w' => e' = .returned (.bool (wi e.order 1 1099511627776 && wi e.item 0 65535 && wi e.qty (-10000) 10000 && wi e.price 0 100000000 && wi e.cur 0 3 && decide (0 ≤ e.qty) && wi e.tax 0 5000 && plainB e.who)) ∧ Ext w w' := by
  have K1 := Lib.hid fun W => fits3_any e W
  have K2 := Lib.hid fun W => plain_any e.who W hn
  generalize (wi e.order 1 1099511627776 && wi e.item 0 65535 && wi e.qty (-10000) 10000 && wi e.price 0 100000000 && wi e.cur 0 3 && decide (0 ≤ e.qty) && wi e.tax 0 5000) = B1 at *
  generalize plainB e.who = B2 at *
  obtain ⟨kind, order, item, qty, price, cur, tax, who, stamp, note⟩ := e
  unfold v3cells at K1
  unfold v4cells
  dsimp only at *
  cases B1
  all_goals
    go_enter Tryz.func288, Tryz.ntmps288
    go_wp2_with (first
      | (go_at_call 284; go_must (with_reducible refine (K1.out _).mono ?_); rintro e w1 ⟨rfl, hx1⟩; have d1 : w1.cell? ⟨w.heap.size, 7, none⟩ = some (.string who) := (Ext.blk hx1 (BlkN rfl)).cell 7)
      | (go_at_call 291; (with_reducible refine (K2.out _).mono ?_); rintro e w2 ⟨rfl, hx2⟩))
    go_ret
    exact ⟨by simp, exA⟩
def fitsB (e : Ev) : Bool := wi e.order 1 1099511627776 && wi e.item 0 65535 && wi e.qty 0 10000 && wi e.price 0 100000000 && wi e.cur 0 3 && wi e.tax 0 5000 && plainB e.who && wi e.stamp 0 1099511627776
theorem fits_eq (e : Ev) : (wi e.order 1 1099511627776 && wi e.item 0 65535 && wi e.qty (-10000) 10000 && wi e.price 0 100000000 && wi e.cur 0 3 && decide (0 ≤ e.qty) && wi e.tax 0 5000 && plainB e.who && wi e.stamp 0 1099511627776) = fitsB e := by
  have h : (wi e.qty (-10000) 10000 && decide (0 ≤ e.qty)) = wi e.qty 0 10000 := by
    rw [Bool.eq_iff_iff, and_t, wi_iff, wi_iff, decide_eq_true_eq]; omega
  unfold fitsB
  rw [← h]
  generalize wi e.order 1 1099511627776 = a
  generalize wi e.item 0 65535 = b
  generalize wi e.qty (-10000) 10000 = c
  generalize wi e.price 0 100000000 = d
  generalize wi e.cur 0 3 = f
  generalize decide (0 ≤ e.qty) = g
  cases a <;> cases b <;> cases c <;> cases d <;> cases f <;> cases g <;> rfl
set_option maxRecDepth 100000 in
set_option maxHeartbeats 2000000 in
theorem fits5_any (e : Ev) (w : World) (hn : e.who.size ≤ 4611686018427387904) :
    Calls Tryz.prog 293 #[.agg (evcells e)] w fun e' w' => e' = .returned (.bool (fitsB e)) ∧ Ext w w' := by
  have K1 := Lib.hid fun W => fits4_any e W hn
  have K2 := Lib.hid fun W => swithin_any e.stamp 0 1099511627776 W
  rw [← fits_eq]
  generalize (wi e.order 1 1099511627776 && wi e.item 0 65535 && wi e.qty (-10000) 10000 && wi e.price 0 100000000 && wi e.cur 0 3 && decide (0 ≤ e.qty) && wi e.tax 0 5000 && plainB e.who) = B1 at *
  generalize wi e.stamp 0 1099511627776 = B2 at *
  obtain ⟨kind, order, item, qty, price, cur, tax, who, stamp, note⟩ := e
  unfold v4cells at K1
  unfold evcells
  dsimp only at *
  cases B1
  all_goals
    go_enter Tryz.func293, Tryz.ntmps293
    go_wp2_with (first
      | (go_at_call 288; go_must (with_reducible refine (K1.out _).mono ?_); rintro e w1 ⟨rfl, hx1⟩; have d1 : w1.cell? ⟨w.heap.size, 8, none⟩ = some (.int .i64 stamp) := (Ext.blk hx1 (BlkN rfl)).cell 8)
      | (go_at_call 279; (with_reducible refine (K2.out _).mono ?_); rintro e w2 ⟨rfl, hx2⟩))
    go_ret
    exact ⟨by simp, exA⟩
end Go.Proofs.YtjajbbgebblalaaGreatDoor

namespace Go.Proofs.YtjajbbgebblalaaGreatDoor
open Go.RowKit
set_option linter.unusedVariables false
set_option linter.unusedSimpArgs false
theorem ev_one (e : Ev) : ∀ v ∈ (evcells e).toList, v.oneCell' = true := by
  intro v hv; simp [evcells] at hv; rcases hv with rfl | rfl | rfl | rfl | rfl | rfl | rfl | rfl | rfl | rfl <;> rfl
theorem ev_one' (a b c d f g h : Int) (s : ByteArray) (i : Int) (t : ByteArray) : ∀ v ∈ (#[.int .i64 a, .int .i64 b, .int .i64 c, .int .i64 d, .int .i64 f, .int .i64 g, .int .i64 h, .string s, .int .i64 i, .string t] : Array Value).toList, v.oneCell' = true := ev_one ⟨a, b, c, d, f, g, h, s, i, t⟩
theorem ev_size' (a b c d f g h : Int) (s : ByteArray) (i : Int) (t : ByteArray) : (#[.int .i64 a, .int .i64 b, .int .i64 c, .int .i64 d, .int .i64 f, .int .i64 g, .int .i64 h, .string s, .int .i64 i, .string t] : Array Value).size = 10 := rfl
set_option maxRecDepth 100000 in
set_option maxHeartbeats 2000000 in
theorem event1_any (e : Ev) (w : World) :
    Calls Tryz.prog 273 #[.agg (v1cells e)] w fun e' w' => e' = .returned (.agg (evcells ⟨e.kind, e.order, e.item, e.qty, e.price, 0, 0, ⟨#[]⟩, 0, ⟨#[]⟩⟩)) ∧ Ext w w' := by
  obtain ⟨kind, order, item, qty, price, cur, tax, who, stamp, note⟩ := e
  unfold v1cells evcells
  dsimp only
  go_enter Tryz.func273, Tryz.ntmps273
  go_wp2_with fail
  go_returns
  exact ⟨rfl, exA⟩
set_option maxRecDepth 100000 in
set_option maxHeartbeats 2000000 in
theorem event2_any (e : Ev) (w : World) :
    Calls Tryz.prog 280 #[.agg (v2cells e)] w fun e' w' => e' = .returned (.agg (evcells ⟨e.kind, e.order, e.item, e.qty, e.price, e.cur, 0, ⟨#[]⟩, 0, ⟨#[]⟩⟩)) ∧ Ext w w' := by
  have K1 := Lib.hid fun W => event1_any e W
  obtain ⟨kind, order, item, qty, price, cur, tax, who, stamp, note⟩ := e
  unfold v1cells evcells at K1
  unfold v2cells evcells
  dsimp only at *
  go_enter Tryz.func280, Tryz.ntmps280
  go_wp2_with (first
    | (go_at_call 273; go_must (with_reducible refine (K1.out _).mono ?_); rintro e w1 ⟨rfl, hx1⟩; have b1 : Blk w1 w.heap.size 329 #[.int .i64 kind, .int .i64 order, .int .i64 item, .int .i64 qty, .int .i64 price, .int .i64 cur] := Ext.blk hx1 (BlkA (BlkN rfl)); have b2 : Blk w1 (w.heap.size + 1) 165 #[.int .i64 0, .int .i64 0, .int .i64 0, .int .i64 0, .int .i64 0, .int .i64 0, .int .i64 0, .string ⟨#[]⟩, .int .i64 0, .string ⟨#[]⟩] := Ext.blk hx1 (BlkN (by simp)); have d5 : ∀ ob, (w1.alloc ob).cell? ⟨w.heap.size, 5, none⟩ = some (.int .i64 cur) := fun ob => (BlkA b1).cell 5)
    | ((with_reducible refine wpL_store_row rfl 165 (.tmp 2) (.tmp 10) rfl _ 165 _ _ rfl rfl (BlkA b2) ((ev_size' _ _ _ _ _ _ _ _ _ _).trans (ev_size' _ _ _ _ _ _ _ _ _ _).symm) (ev_one' _ _ _ _ _ _ _ _ _ _) 10 ev_wide (ev_size' _ _ _ _ _ _ _ _ _ _) ?_)))
  refine bodyPost_ret (res_row rfl _ _ _ 165 _ 10 rfl ((BlkA b2).setRow_) ev_wide rfl) rfl ?_
  exact ⟨rfl, exA⟩
set_option maxRecDepth 100000 in
set_option maxHeartbeats 2000000 in
theorem event3_any (e : Ev) (w : World) :
    Calls Tryz.prog 283 #[.agg (v3cells e)] w fun e' w' => e' = .returned (.agg (evcells ⟨e.kind, e.order, e.item, e.qty, e.price, e.cur, e.tax, ⟨#[]⟩, 0, ⟨#[]⟩⟩)) ∧ Ext w w' := by
  have K1 := Lib.hid fun W => event2_any e W
  obtain ⟨kind, order, item, qty, price, cur, tax, who, stamp, note⟩ := e
  unfold v2cells evcells at K1
  unfold v3cells evcells
  dsimp only at *
  go_enter Tryz.func283, Tryz.ntmps283
  go_wp2_with (first
    | (go_at_call 280; go_must (with_reducible refine (K1.out _).mono ?_); rintro e w1 ⟨rfl, hx1⟩; have b1 : Blk w1 w.heap.size 331 #[.int .i64 kind, .int .i64 order, .int .i64 item, .int .i64 qty, .int .i64 price, .int .i64 cur, .int .i64 tax] := Ext.blk hx1 (BlkA (BlkN rfl)); have b2 : Blk w1 (w.heap.size + 1) 165 #[.int .i64 0, .int .i64 0, .int .i64 0, .int .i64 0, .int .i64 0, .int .i64 0, .int .i64 0, .string ⟨#[]⟩, .int .i64 0, .string ⟨#[]⟩] := Ext.blk hx1 (BlkN (by simp)); have d6 : ∀ ob, (w1.alloc ob).cell? ⟨w.heap.size, 6, none⟩ = some (.int .i64 tax) := fun ob => (BlkA b1).cell 6)
    | ((with_reducible refine wpL_store_row rfl 165 (.tmp 2) (.tmp 10) rfl _ 165 _ _ rfl rfl (BlkA b2) ((ev_size' _ _ _ _ _ _ _ _ _ _).trans (ev_size' _ _ _ _ _ _ _ _ _ _).symm) (ev_one' _ _ _ _ _ _ _ _ _ _) 10 ev_wide (ev_size' _ _ _ _ _ _ _ _ _ _) ?_)))
  refine bodyPost_ret (res_row rfl _ _ _ 165 _ 10 rfl ((BlkA b2).setRow_) ev_wide rfl) rfl ?_
  exact ⟨rfl, exA⟩
set_option maxRecDepth 100000 in
set_option maxHeartbeats 2000000 in
theorem event4_any (e : Ev) (w : World) :
    Calls Tryz.prog 287 #[.agg (v4cells e)] w fun e' w' => e' = .returned (.agg (evcells ⟨e.kind, e.order, e.item, e.qty, e.price, e.cur, e.tax, e.who, 0, ⟨#[]⟩⟩)) ∧ Ext w w' := by
  have K1 := Lib.hid fun W => event3_any e W
  obtain ⟨kind, order, item, qty, price, cur, tax, who, stamp, note⟩ := e
  unfold v3cells evcells at K1
  unfold v4cells evcells
  dsimp only at *
  go_enter Tryz.func287, Tryz.ntmps287
  go_wp2_with (first
    | (go_at_call 283; go_must (with_reducible refine (K1.out _).mono ?_); rintro e w1 ⟨rfl, hx1⟩; have b1 : Blk w1 w.heap.size 333 #[.int .i64 kind, .int .i64 order, .int .i64 item, .int .i64 qty, .int .i64 price, .int .i64 cur, .int .i64 tax, .string who] := Ext.blk hx1 (BlkA (BlkN rfl)); have b2 : Blk w1 (w.heap.size + 1) 165 #[.int .i64 0, .int .i64 0, .int .i64 0, .int .i64 0, .int .i64 0, .int .i64 0, .int .i64 0, .string ⟨#[]⟩, .int .i64 0, .string ⟨#[]⟩] := Ext.blk hx1 (BlkN (by simp)); have d7 : ∀ ob, (w1.alloc ob).cell? ⟨w.heap.size, 7, none⟩ = some (.string who) := fun ob => (BlkA b1).cell 7)
    | ((with_reducible refine wpL_store_row rfl 165 (.tmp 2) (.tmp 10) rfl _ 165 _ _ rfl rfl (BlkA b2) ((ev_size' _ _ _ _ _ _ _ _ _ _).trans (ev_size' _ _ _ _ _ _ _ _ _ _).symm) (ev_one' _ _ _ _ _ _ _ _ _ _) 10 ev_wide (ev_size' _ _ _ _ _ _ _ _ _ _) ?_)))
  refine bodyPost_ret (res_row rfl _ _ _ 165 _ 10 rfl ((BlkA b2).setRow_) ev_wide rfl) rfl ?_
  exact ⟨rfl, exA⟩
set_option maxRecDepth 100000 in
set_option maxHeartbeats 2000000 in
theorem event5_any (e : Ev) (w : World) :
    Calls Tryz.prog 292 #[.agg (evcells e)] w fun e' w' => e' = .returned (.agg (evcells ⟨e.kind, e.order, e.item, e.qty, e.price, e.cur, e.tax, e.who, e.stamp, e.note⟩)) ∧ Ext w w' := by
  have K1 := Lib.hid fun W => event4_any e W
  obtain ⟨kind, order, item, qty, price, cur, tax, who, stamp, note⟩ := e
  unfold v4cells evcells at K1
  unfold evcells
  dsimp only at *
  go_enter Tryz.func292, Tryz.ntmps292
  go_wp2_with (first
    | (go_at_call 287; go_must (with_reducible refine (K1.out _).mono ?_); rintro e w1 ⟨rfl, hx1⟩; have b1 : Blk w1 w.heap.size 335 #[.int .i64 kind, .int .i64 order, .int .i64 item, .int .i64 qty, .int .i64 price, .int .i64 cur, .int .i64 tax, .string who, .int .i64 stamp, .string note] := Ext.blk hx1 (BlkA (BlkN rfl)); have b2 : Blk w1 (w.heap.size + 1) 165 #[.int .i64 0, .int .i64 0, .int .i64 0, .int .i64 0, .int .i64 0, .int .i64 0, .int .i64 0, .string ⟨#[]⟩, .int .i64 0, .string ⟨#[]⟩] := Ext.blk hx1 (BlkN (by simp)); have d8 : ∀ ob, (w1.alloc ob).cell? ⟨w.heap.size, 8, none⟩ = some (.int .i64 stamp) := fun ob => (BlkA b1).cell 8; have d9 : ∀ ob, (w1.alloc ob).cell? ⟨w.heap.size, 9, none⟩ = some (.string note) := fun ob => (BlkA b1).cell 9)
    | ((with_reducible refine wpL_store_row rfl 165 (.tmp 2) (.tmp 13) rfl _ 165 _ _ rfl rfl (BlkA b2) ((ev_size' _ _ _ _ _ _ _ _ _ _).trans (ev_size' _ _ _ _ _ _ _ _ _ _).symm) (ev_one' _ _ _ _ _ _ _ _ _ _) 10 ev_wide (ev_size' _ _ _ _ _ _ _ _ _ _) ?_)))
  refine bodyPost_ret (res_row rfl _ _ _ 165 _ 10 rfl ((BlkA b2).setRow_) ev_wide rfl) rfl ?_
  exact ⟨rfl, exA⟩
theorem lift_any (e : Ev) (w : World) :
    Calls Tryz.prog 242 #[.agg (evcells e)] w fun e' w' => e' = .returned (.agg (evcells e)) ∧ Ext w w' := by
  obtain ⟨kind, order, item, qty, price, cur, tax, who, stamp, note⟩ := e
  unfold evcells
  dsimp only
  go_enter Tryz.func242, Tryz.ntmps242
  go_wp2_with fail
  go_returns
  exact ⟨rfl, exA⟩
theorem last5_any (e : Ev) (w : World) :
    Calls Tryz.prog 294 #[.agg (evcells e)] w fun e' w' => e' = .returned (.int .i64 10) ∧ Ext w w' := by
  obtain ⟨kind, order, item, qty, price, cur, tax, who, stamp, note⟩ := e
  unfold evcells
  dsimp only
  go_enter Tryz.func294, Tryz.ntmps294
  go_wp2_with fail
  go_ret
  exact ⟨rfl, exA⟩
end Go.Proofs.YtjajbbgebblalaaGreatDoor

namespace Go.Proofs.YtjajbbgebblalaaGreatDoor
open Go.RowKit
set_option linter.unusedVariables false
set_option linter.unusedSimpArgs false
set_option maxRecDepth 100000 in
set_option maxHeartbeats 2000000 in
theorem typed_any (e : Ev) (w : World) :
    Calls Tryz.prog 220 #[.int .i64 5, .agg (evcells e)] w fun e' w' => e' = .returned (.iface 335 (.agg (evcells e))) ∧ Ext w w' := by
  have K1 := Lib.hid fun W => lift_any e W
  obtain ⟨kind, order, item, qty, price, cur, tax, who, stamp, note⟩ := e
  unfold evcells at *
  dsimp only at *
  go_enter Tryz.func220, Tryz.ntmps220
  go_wp2_with (go_at_call 242; go_must (with_reducible refine (K1.out _).mono ?_); rintro e w1 ⟨rfl, hx1⟩)
  go_ret
  exact ⟨rfl, exA⟩
set_option maxRecDepth 100000 in
set_option maxHeartbeats 2000000 in
theorem check5_any (e : Ev) (w : World) (hn : e.who.size ≤ 4611686018427387904) (hn2 : e.note.size ≤ 4611686018427387904) :
    Calls Tryz.prog 172 #[.int .i64 5, .agg (evcells e)] w fun e' w' => e' = .returned (.int .i64 (check5 e)) ∧ Ext w w' := by
  have K1 := Lib.hid fun W => typed_any e W
  have K2 := Lib.hid fun W => last5_any e W
  have K3 := Lib.hid fun W => fits5_any e W hn
  have K4 := Lib.hid fun W => event5_any e W
  have Hv : Hid (check5 e = if e.kind < 1 ∨ 10 < e.kind then 31 else if 16 < e.who.size ∨ 120 < e.note.size then 24 else if fitsB e then 0 else 32) := Lib.hid rfl
  generalize fitsB e = F at *
  generalize check5 e = C at *
  obtain ⟨kind, order, item, qty, price, cur, tax, who, stamp, note⟩ := e
  unfold evcells at *
  dsimp only at *
  by_cases h1 : kind < 1
  · go_enter Tryz.func172, Tryz.ntmps172
    go_wp2_with (first
      | (go_at_call 220; (with_reducible refine (K1.out _).mono ?_); rintro e w1 ⟨rfl, hx1⟩; have b1 : Blk w1 w.heap.size 165 #[.int .i64 kind, .int .i64 order, .int .i64 item, .int .i64 qty, .int .i64 price, .int .i64 cur, .int .i64 tax, .string who, .int .i64 stamp, .string note] := Ext.blk hx1 (BlkN rfl); have d0 : w1.cell? ⟨w.heap.size, 0, none⟩ = some (.int .i64 kind) := b1.cell 0))
    go_quiet (fail)
    go_wp2_with fail
    go_ret
    exact ⟨by rw [Hv.out, if_pos (.inl (by omega))]; rfl, exA⟩
  have t1 : decide (kind < 1) = false := by simp; omega
  by_cases h2 : 10 < kind
  ·
    go_enter Tryz.func172, Tryz.ntmps172
    go_wp2_with (first
      | (go_at_call 220; (with_reducible refine (K1.out _).mono ?_); rintro e w1 ⟨rfl, hx1⟩; have b1 : Blk w1 w.heap.size 165 #[.int .i64 kind, .int .i64 order, .int .i64 item, .int .i64 qty, .int .i64 price, .int .i64 cur, .int .i64 tax, .string who, .int .i64 stamp, .string note] := Ext.blk hx1 (BlkN rfl); have d0 : w1.cell? ⟨w.heap.size, 0, none⟩ = some (.int .i64 kind) := b1.cell 0))
    go_region_with (first
      | (go_at_call 294; (with_reducible refine (K2.out _).mono ?_); rintro e w2 ⟨rfl, hx2⟩; have hy2 : Ext w1 w2 := exA; have d0 : w2.cell? ⟨w.heap.size, 0, none⟩ = some (.int .i64 kind) := (Ext.blk hy2 b1).cell 0; have d7 : w2.cell? ⟨w.heap.size, 7, none⟩ = some (.string who) := (Ext.blk hy2 b1).cell 7; have d9 : w2.cell? ⟨w.heap.size, 9, none⟩ = some (.string note) := (Ext.blk hy2 b1).cell 9))
    all_goals
      go_wp2_with fail
      go_ret
      exact ⟨by rw [Hv.out, if_pos (.inr (by omega))]; rfl, exA⟩
  have t2 : decide (10 < kind) = false := by simp; omega
  have Hv2 : Hid (C = if 16 < who.size ∨ 120 < note.size then 24 else if F then 0 else 32) := Lib.hid (by rw [Hv.out, if_neg (by omega)])
  clear Hv
  by_cases h3 : 16 < who.size
  · have Hv3 : Hid (C = 24) := Lib.hid (by rw [Hv2.out, if_pos (.inl h3)])
    go_enter Tryz.func172, Tryz.ntmps172
    go_wp2_with (first
      | (go_at_call 220; (with_reducible refine (K1.out _).mono ?_); rintro e w1 ⟨rfl, hx1⟩; have b1 : Blk w1 w.heap.size 165 #[.int .i64 kind, .int .i64 order, .int .i64 item, .int .i64 qty, .int .i64 price, .int .i64 cur, .int .i64 tax, .string who, .int .i64 stamp, .string note] := Ext.blk hx1 (BlkN rfl); have d0 : w1.cell? ⟨w.heap.size, 0, none⟩ = some (.int .i64 kind) := b1.cell 0))
    go_region_with (first
      | (go_at_call 294; (with_reducible refine (K2.out _).mono ?_); rintro e w2 ⟨rfl, hx2⟩; have hy2 : Ext w1 w2 := exA; have d0 : w2.cell? ⟨w.heap.size, 0, none⟩ = some (.int .i64 kind) := (Ext.blk hy2 b1).cell 0; have d7 : w2.cell? ⟨w.heap.size, 7, none⟩ = some (.string who) := (Ext.blk hy2 b1).cell 7; have d9 : w2.cell? ⟨w.heap.size, 9, none⟩ = some (.string note) := (Ext.blk hy2 b1).cell 9))
    all_goals
      go_wp2_with fail
      go_ret
      exact ⟨by rw [Hv3.out]; rfl, exA⟩
  by_cases h4 : 120 < note.size
  · have Hv3 : Hid (C = 24) := Lib.hid (by rw [Hv2.out, if_pos (.inr h4)])
    go_enter Tryz.func172, Tryz.ntmps172
    go_wp2_with (first
      | (go_at_call 220; (with_reducible refine (K1.out _).mono ?_); rintro e w1 ⟨rfl, hx1⟩; have b1 : Blk w1 w.heap.size 165 #[.int .i64 kind, .int .i64 order, .int .i64 item, .int .i64 qty, .int .i64 price, .int .i64 cur, .int .i64 tax, .string who, .int .i64 stamp, .string note] := Ext.blk hx1 (BlkN rfl); have d0 : w1.cell? ⟨w.heap.size, 0, none⟩ = some (.int .i64 kind) := b1.cell 0))
    go_region_with (first
      | (go_at_call 294; (with_reducible refine (K2.out _).mono ?_); rintro e w2 ⟨rfl, hx2⟩; have hy2 : Ext w1 w2 := exA; have d0 : w2.cell? ⟨w.heap.size, 0, none⟩ = some (.int .i64 kind) := (Ext.blk hy2 b1).cell 0; have d7 : w2.cell? ⟨w.heap.size, 7, none⟩ = some (.string who) := (Ext.blk hy2 b1).cell 7; have d9 : w2.cell? ⟨w.heap.size, 9, none⟩ = some (.string note) := (Ext.blk hy2 b1).cell 9))
    all_goals
      go_wp2_with fail
      go_ret
      exact ⟨by rw [Hv3.out]; rfl, exA⟩
  have Hv3 : Hid (C = if F then 0 else 32) := Lib.hid (by rw [Hv2.out, if_neg (by omega)])
  cases F with
  | false =>
    go_enter Tryz.func172, Tryz.ntmps172
    go_wp2_with (first
      | (go_at_call 220; (with_reducible refine (K1.out _).mono ?_); rintro e w1 ⟨rfl, hx1⟩; have b1 : Blk w1 w.heap.size 165 #[.int .i64 kind, .int .i64 order, .int .i64 item, .int .i64 qty, .int .i64 price, .int .i64 cur, .int .i64 tax, .string who, .int .i64 stamp, .string note] := Ext.blk hx1 (BlkN rfl); have d0 : w1.cell? ⟨w.heap.size, 0, none⟩ = some (.int .i64 kind) := b1.cell 0))
    go_region_with (first
      | (go_at_call 294; (with_reducible refine (K2.out _).mono ?_); rintro e w2 ⟨rfl, hx2⟩; have hy2 : Ext w1 w2 := exA; have d0 : w2.cell? ⟨w.heap.size, 0, none⟩ = some (.int .i64 kind) := (Ext.blk hy2 b1).cell 0; have d7 : w2.cell? ⟨w.heap.size, 7, none⟩ = some (.string who) := (Ext.blk hy2 b1).cell 7; have b3 : Blk w2 w.heap.size 165 #[.int .i64 kind, .int .i64 order, .int .i64 item, .int .i64 qty, .int .i64 price, .int .i64 cur, .int .i64 tax, .string who, .int .i64 stamp, .string note] := Ext.blk hy2 b1; (have d0 : World.cell? w2 ⟨w.heap.size, 0, none⟩ = some (.int .i64 kind) := Blk.cell b3 0; have d1 : World.cell? w2 ⟨w.heap.size, 1, none⟩ = some (.int .i64 order) := Blk.cell b3 1; have d2 : World.cell? w2 ⟨w.heap.size, 2, none⟩ = some (.int .i64 item) := Blk.cell b3 2; have d3 : World.cell? w2 ⟨w.heap.size, 3, none⟩ = some (.int .i64 qty) := Blk.cell b3 3; have d4 : World.cell? w2 ⟨w.heap.size, 4, none⟩ = some (.int .i64 price) := Blk.cell b3 4; have d5 : World.cell? w2 ⟨w.heap.size, 5, none⟩ = some (.int .i64 cur) := Blk.cell b3 5; have d6 : World.cell? w2 ⟨w.heap.size, 6, none⟩ = some (.int .i64 tax) := Blk.cell b3 6; have d7 : World.cell? w2 ⟨w.heap.size, 7, none⟩ = some (.string who) := Blk.cell b3 7; have d8 : World.cell? w2 ⟨w.heap.size, 8, none⟩ = some (.int .i64 stamp) := Blk.cell b3 8; have d9 : World.cell? w2 ⟨w.heap.size, 9, none⟩ = some (.string note) := Blk.cell b3 9)))
    all_goals
      go_wp2_with fail
      first | (go_region_with (first
        | (go_at_call 293; (with_reducible refine (K3.out _).mono ?_); rintro e w3 ⟨rfl, hx3⟩; have hy3 : Ext w2 w3 := exA; have b4 := Ext.blk hy3 b3; (have d0 : World.cell? w3 ⟨w.heap.size, 0, none⟩ = some (.int .i64 kind) := Blk.cell b4 0; have d1 : World.cell? w3 ⟨w.heap.size, 1, none⟩ = some (.int .i64 order) := Blk.cell b4 1; have d2 : World.cell? w3 ⟨w.heap.size, 2, none⟩ = some (.int .i64 item) := Blk.cell b4 2; have d3 : World.cell? w3 ⟨w.heap.size, 3, none⟩ = some (.int .i64 qty) := Blk.cell b4 3; have d4 : World.cell? w3 ⟨w.heap.size, 4, none⟩ = some (.int .i64 price) := Blk.cell b4 4; have d5 : World.cell? w3 ⟨w.heap.size, 5, none⟩ = some (.int .i64 cur) := Blk.cell b4 5; have d6 : World.cell? w3 ⟨w.heap.size, 6, none⟩ = some (.int .i64 tax) := Blk.cell b4 6; have d7 : World.cell? w3 ⟨w.heap.size, 7, none⟩ = some (.string who) := Blk.cell b4 7; have d8 : World.cell? w3 ⟨w.heap.size, 8, none⟩ = some (.int .i64 stamp) := Blk.cell b4 8; have d9 : World.cell? w3 ⟨w.heap.size, 9, none⟩ = some (.string note) := Blk.cell b4 9))
        | (go_at_call 292; (with_reducible refine (K4.out _).mono ?_); rintro e w4 ⟨rfl, hx4⟩; have hy4 : Ext w3 w4 := exA; have b5 := Ext.blk hy4 b4; (have d0 : World.cell? w4 ⟨w.heap.size, 0, none⟩ = some (.int .i64 kind) := Blk.cell b5 0; have d1 : World.cell? w4 ⟨w.heap.size, 1, none⟩ = some (.int .i64 order) := Blk.cell b5 1; have d2 : World.cell? w4 ⟨w.heap.size, 2, none⟩ = some (.int .i64 item) := Blk.cell b5 2; have d3 : World.cell? w4 ⟨w.heap.size, 3, none⟩ = some (.int .i64 qty) := Blk.cell b5 3; have d4 : World.cell? w4 ⟨w.heap.size, 4, none⟩ = some (.int .i64 price) := Blk.cell b5 4; have d5 : World.cell? w4 ⟨w.heap.size, 5, none⟩ = some (.int .i64 cur) := Blk.cell b5 5; have d6 : World.cell? w4 ⟨w.heap.size, 6, none⟩ = some (.int .i64 tax) := Blk.cell b5 6; have d7 : World.cell? w4 ⟨w.heap.size, 7, none⟩ = some (.string who) := Blk.cell b5 7; have d8 : World.cell? w4 ⟨w.heap.size, 8, none⟩ = some (.int .i64 stamp) := Blk.cell b5 8; have d9 : World.cell? w4 ⟨w.heap.size, 9, none⟩ = some (.string note) := Blk.cell b5 9)))) | fail
      all_goals
        go_wp2_with fail
        go_ret
        exact ⟨by rw [Hv3.out]; rfl, exA⟩
  | true =>
    go_enter Tryz.func172, Tryz.ntmps172
    go_wp2_with (first
      | (go_at_call 220; (with_reducible refine (K1.out _).mono ?_); rintro e w1 ⟨rfl, hx1⟩; have b1 : Blk w1 w.heap.size 165 #[.int .i64 kind, .int .i64 order, .int .i64 item, .int .i64 qty, .int .i64 price, .int .i64 cur, .int .i64 tax, .string who, .int .i64 stamp, .string note] := Ext.blk hx1 (BlkN rfl); have d0 : w1.cell? ⟨w.heap.size, 0, none⟩ = some (.int .i64 kind) := b1.cell 0))
    go_region_with (first
      | (go_at_call 294; (with_reducible refine (K2.out _).mono ?_); rintro e w2 ⟨rfl, hx2⟩; have hy2 : Ext w1 w2 := exA; have d0 : w2.cell? ⟨w.heap.size, 0, none⟩ = some (.int .i64 kind) := (Ext.blk hy2 b1).cell 0; have d7 : w2.cell? ⟨w.heap.size, 7, none⟩ = some (.string who) := (Ext.blk hy2 b1).cell 7; have b3 : Blk w2 w.heap.size 165 #[.int .i64 kind, .int .i64 order, .int .i64 item, .int .i64 qty, .int .i64 price, .int .i64 cur, .int .i64 tax, .string who, .int .i64 stamp, .string note] := Ext.blk hy2 b1; (have d0 : World.cell? w2 ⟨w.heap.size, 0, none⟩ = some (.int .i64 kind) := Blk.cell b3 0; have d1 : World.cell? w2 ⟨w.heap.size, 1, none⟩ = some (.int .i64 order) := Blk.cell b3 1; have d2 : World.cell? w2 ⟨w.heap.size, 2, none⟩ = some (.int .i64 item) := Blk.cell b3 2; have d3 : World.cell? w2 ⟨w.heap.size, 3, none⟩ = some (.int .i64 qty) := Blk.cell b3 3; have d4 : World.cell? w2 ⟨w.heap.size, 4, none⟩ = some (.int .i64 price) := Blk.cell b3 4; have d5 : World.cell? w2 ⟨w.heap.size, 5, none⟩ = some (.int .i64 cur) := Blk.cell b3 5; have d6 : World.cell? w2 ⟨w.heap.size, 6, none⟩ = some (.int .i64 tax) := Blk.cell b3 6; have d7 : World.cell? w2 ⟨w.heap.size, 7, none⟩ = some (.string who) := Blk.cell b3 7; have d8 : World.cell? w2 ⟨w.heap.size, 8, none⟩ = some (.int .i64 stamp) := Blk.cell b3 8; have d9 : World.cell? w2 ⟨w.heap.size, 9, none⟩ = some (.string note) := Blk.cell b3 9)))
    all_goals
      go_wp2_with fail
      first | (go_region_with (first
        | (go_at_call 293; (with_reducible refine (K3.out _).mono ?_); rintro e w3 ⟨rfl, hx3⟩; have hy3 : Ext w2 w3 := exA; have b4 := Ext.blk hy3 b3; (have d0 : World.cell? w3 ⟨w.heap.size, 0, none⟩ = some (.int .i64 kind) := Blk.cell b4 0; have d1 : World.cell? w3 ⟨w.heap.size, 1, none⟩ = some (.int .i64 order) := Blk.cell b4 1; have d2 : World.cell? w3 ⟨w.heap.size, 2, none⟩ = some (.int .i64 item) := Blk.cell b4 2; have d3 : World.cell? w3 ⟨w.heap.size, 3, none⟩ = some (.int .i64 qty) := Blk.cell b4 3; have d4 : World.cell? w3 ⟨w.heap.size, 4, none⟩ = some (.int .i64 price) := Blk.cell b4 4; have d5 : World.cell? w3 ⟨w.heap.size, 5, none⟩ = some (.int .i64 cur) := Blk.cell b4 5; have d6 : World.cell? w3 ⟨w.heap.size, 6, none⟩ = some (.int .i64 tax) := Blk.cell b4 6; have d7 : World.cell? w3 ⟨w.heap.size, 7, none⟩ = some (.string who) := Blk.cell b4 7; have d8 : World.cell? w3 ⟨w.heap.size, 8, none⟩ = some (.int .i64 stamp) := Blk.cell b4 8; have d9 : World.cell? w3 ⟨w.heap.size, 9, none⟩ = some (.string note) := Blk.cell b4 9))
        | (go_at_call 292; (with_reducible refine (K4.out _).mono ?_); rintro e w4 ⟨rfl, hx4⟩; have hy4 : Ext w3 w4 := exA; have b5 := Ext.blk hy4 b4; (have d0 : World.cell? w4 ⟨w.heap.size, 0, none⟩ = some (.int .i64 kind) := Blk.cell b5 0; have d1 : World.cell? w4 ⟨w.heap.size, 1, none⟩ = some (.int .i64 order) := Blk.cell b5 1; have d2 : World.cell? w4 ⟨w.heap.size, 2, none⟩ = some (.int .i64 item) := Blk.cell b5 2; have d3 : World.cell? w4 ⟨w.heap.size, 3, none⟩ = some (.int .i64 qty) := Blk.cell b5 3; have d4 : World.cell? w4 ⟨w.heap.size, 4, none⟩ = some (.int .i64 price) := Blk.cell b5 4; have d5 : World.cell? w4 ⟨w.heap.size, 5, none⟩ = some (.int .i64 cur) := Blk.cell b5 5; have d6 : World.cell? w4 ⟨w.heap.size, 6, none⟩ = some (.int .i64 tax) := Blk.cell b5 6; have d7 : World.cell? w4 ⟨w.heap.size, 7, none⟩ = some (.string who) := Blk.cell b5 7; have d8 : World.cell? w4 ⟨w.heap.size, 8, none⟩ = some (.int .i64 stamp) := Blk.cell b5 8; have d9 : World.cell? w4 ⟨w.heap.size, 9, none⟩ = some (.string note) := Blk.cell b5 9)))) | fail
      all_goals
        go_wp2_with fail
        go_ret
        exact ⟨by rw [Hv3.out]; rfl, exA⟩
end Go.Proofs.YtjajbbgebblalaaGreatDoor

namespace Go.Proofs.YtjajbbgebblalaaGreatDoor
open Go.RowKit
set_option linter.unusedVariables false
set_option linter.unusedSimpArgs false
set_option maxRecDepth 100000 in
set_option maxHeartbeats 2000000 in
theorem named_any (who : ByteArray) (w : World) (hn : who.size ≤ 4611686018427387904) :
    Calls Tryz.prog 212 #[.string who] w fun e' w' => e' = .returned (.bool (namedB who)) ∧ Ext w w' := by
  have K1 := Lib.hid fun W => check5_any ⟨1, 1, 0, 0, 0, 0, 0, who, 0, ⟨#[]⟩⟩ W hn (by show 0 ≤ _; omega)
  have Hv : Hid (namedB who = decide (check5 ⟨1, 1, 0, 0, 0, 0, 0, who, 0, ⟨#[]⟩⟩ = 0)) := Lib.hid (by
    unfold check5 namedB wi
    dsimp only
    rw [show (ByteArray.mk #[]).size = 0 from rfl]
    by_cases h16 : who.size ≤ 16
    · have h17 : ¬ 16 < who.size := by omega
      cases plainB who <;> simp [h16, h17]
    · have h17 : 16 < who.size := by omega
      cases plainB who <;> simp [h16, h17])
  generalize check5 ⟨1, 1, 0, 0, 0, 0, 0, who, 0, ⟨#[]⟩⟩ = C at *
  unfold evcells at K1
  dsimp only at K1
  go_enter Tryz.func212, Tryz.ntmps212
  go_wp2_with (first
    | (go_at_call 172; go_must (with_reducible refine (K1.out _).mono ?_); rintro e w1 ⟨rfl, hx1⟩))
  go_ret
  exact ⟨by rw [Hv.out]; show Ending.returned (Value.bool ((C : Int) == 0)) = _; rw [show ((C : Int) == 0) = decide (C = 0) by rw [Bool.eq_iff_iff]; simp], exA⟩
set_option maxRecDepth 100000 in
set_option maxHeartbeats 4000000 in
theorem bounded_any (s : St) (A : Option Addr) (c : Nat) (w : World) (hr : LsRd w A s.lines) (hn : s.lines.length ≤ 4611686018427387904) (hw : s.who.size ≤ 4611686018427387904) :
    Calls Tryz.prog 159 #[.agg (stcells s A c)] w fun e w' => e = .returned (.bool (boundedB s)) ∧ Ext w w' := by
  have K1 := Lib.hid fun W => within_any s.order 1 1099511627776 W
  have K2 := Lib.hid fun W => within_any s.status 0 5 W
  have K3 := Lib.hid fun W => within_any s.cur 0 3 W
  have K4 := Lib.hid fun W => within_any s.tax 0 5000 W
  have K5 := Lib.hid fun W (h : LsRd W A s.lines) => lined_any s.lines A c W h hn
  have K6 := Lib.hid fun W => within_any s.refunded 0 s.paid W
  have K7 := Lib.hid fun W => within_any s.events 0 1099511627776 W
  have K8 := Lib.hid fun W => within_any s.refused 0 s.events W
  have K9 := Lib.hid fun W => within_any s.stamp 0 1099511627776 W
  have K10 := Lib.hid fun W => named_any s.who W hw
  have Hv : Hid (boundedB s = (wi s.order 1 1099511627776 && wi s.status 0 5 && wi s.cur 0 3 && wi s.tax 0 5000 && linedB s.lines && wi s.refunded 0 s.paid && wi s.events 0 1099511627776 && wi s.refused 0 s.events && wi s.stamp 0 1099511627776 && namedB s.who)) := Lib.hid rfl
  generalize wi s.order 1 1099511627776 = B1 at *
  generalize wi s.status 0 5 = B2 at *
  generalize wi s.cur 0 3 = B3 at *
  generalize wi s.tax 0 5000 = B4 at *
  generalize linedB s.lines = B5 at *
  generalize wi s.refunded 0 s.paid = B6 at *
  generalize wi s.events 0 1099511627776 = B7 at *
  generalize wi s.refused 0 s.events = B8 at *
  generalize wi s.stamp 0 1099511627776 = B9 at *
  generalize namedB s.who = B10 at *
  generalize boundedB s = R at *
  obtain ⟨order, status, prior, cur, tax, ls, paid, refunded, events, refused, stamp, who⟩ := s
  unfold stcells
  dsimp only at *
  generalize ls.length = n at *
  go_enter Tryz.func159, Tryz.ntmps159
  go_wp2_with (first
    | (go_at_call 210; (with_reducible refine (K1.out _).mono ?_); rintro e w1 ⟨rfl, hx1⟩; have b1 : Blk w1 w.heap.size 77 #[.int .i64 order, .int .i64 status, .int .i64 prior, .int .i64 cur, .int .i64 tax, .slice A n c, .int .i64 paid, .int .i64 refunded, .int .i64 events, .int .i64 refused, .int .i64 stamp, .string who] := Ext.blk hx1 (BlkN rfl); have y1 : Ext w w1 := exA; (have a0 : World.cell? w1 ⟨w.heap.size, 0, none⟩ = some (.int .i64 order) := Blk.cell b1 0; have a1 : World.cell? w1 ⟨w.heap.size, 1, none⟩ = some (.int .i64 status) := Blk.cell b1 1; have a2 : World.cell? w1 ⟨w.heap.size, 2, none⟩ = some (.int .i64 prior) := Blk.cell b1 2; have a3 : World.cell? w1 ⟨w.heap.size, 3, none⟩ = some (.int .i64 cur) := Blk.cell b1 3; have a4 : World.cell? w1 ⟨w.heap.size, 4, none⟩ = some (.int .i64 tax) := Blk.cell b1 4; have a5 : World.cell? w1 ⟨w.heap.size, 5, none⟩ = some (.slice A n c) := Blk.cell b1 5; have a6 : World.cell? w1 ⟨w.heap.size, 6, none⟩ = some (.int .i64 paid) := Blk.cell b1 6; have a7 : World.cell? w1 ⟨w.heap.size, 7, none⟩ = some (.int .i64 refunded) := Blk.cell b1 7; have a8 : World.cell? w1 ⟨w.heap.size, 8, none⟩ = some (.int .i64 events) := Blk.cell b1 8; have a9 : World.cell? w1 ⟨w.heap.size, 9, none⟩ = some (.int .i64 refused) := Blk.cell b1 9; have a10 : World.cell? w1 ⟨w.heap.size, 10, none⟩ = some (.int .i64 stamp) := Blk.cell b1 10; have a11 : World.cell? w1 ⟨w.heap.size, 11, none⟩ = some (.string who) := Blk.cell b1 11))
    | (go_at_call 210; (with_reducible refine (K2.out _).mono ?_); rintro e w2 ⟨rfl, hx2⟩; have b2 : Blk w2 w.heap.size 77 #[.int .i64 order, .int .i64 status, .int .i64 prior, .int .i64 cur, .int .i64 tax, .slice A n c, .int .i64 paid, .int .i64 refunded, .int .i64 events, .int .i64 refused, .int .i64 stamp, .string who] := Ext.blk hx2 b1; have y2 : Ext w w2 := exA; (have a0 : World.cell? w2 ⟨w.heap.size, 0, none⟩ = some (.int .i64 order) := Blk.cell b2 0; have a1 : World.cell? w2 ⟨w.heap.size, 1, none⟩ = some (.int .i64 status) := Blk.cell b2 1; have a2 : World.cell? w2 ⟨w.heap.size, 2, none⟩ = some (.int .i64 prior) := Blk.cell b2 2; have a3 : World.cell? w2 ⟨w.heap.size, 3, none⟩ = some (.int .i64 cur) := Blk.cell b2 3; have a4 : World.cell? w2 ⟨w.heap.size, 4, none⟩ = some (.int .i64 tax) := Blk.cell b2 4; have a5 : World.cell? w2 ⟨w.heap.size, 5, none⟩ = some (.slice A n c) := Blk.cell b2 5; have a6 : World.cell? w2 ⟨w.heap.size, 6, none⟩ = some (.int .i64 paid) := Blk.cell b2 6; have a7 : World.cell? w2 ⟨w.heap.size, 7, none⟩ = some (.int .i64 refunded) := Blk.cell b2 7; have a8 : World.cell? w2 ⟨w.heap.size, 8, none⟩ = some (.int .i64 events) := Blk.cell b2 8; have a9 : World.cell? w2 ⟨w.heap.size, 9, none⟩ = some (.int .i64 refused) := Blk.cell b2 9; have a10 : World.cell? w2 ⟨w.heap.size, 10, none⟩ = some (.int .i64 stamp) := Blk.cell b2 10; have a11 : World.cell? w2 ⟨w.heap.size, 11, none⟩ = some (.string who) := Blk.cell b2 11))
    | (go_at_call 210; (with_reducible refine (K3.out _).mono ?_); rintro e w3 ⟨rfl, hx3⟩; have b3 : Blk w3 w.heap.size 77 #[.int .i64 order, .int .i64 status, .int .i64 prior, .int .i64 cur, .int .i64 tax, .slice A n c, .int .i64 paid, .int .i64 refunded, .int .i64 events, .int .i64 refused, .int .i64 stamp, .string who] := Ext.blk hx3 b2; have y3 : Ext w w3 := exA; (have a0 : World.cell? w3 ⟨w.heap.size, 0, none⟩ = some (.int .i64 order) := Blk.cell b3 0; have a1 : World.cell? w3 ⟨w.heap.size, 1, none⟩ = some (.int .i64 status) := Blk.cell b3 1; have a2 : World.cell? w3 ⟨w.heap.size, 2, none⟩ = some (.int .i64 prior) := Blk.cell b3 2; have a3 : World.cell? w3 ⟨w.heap.size, 3, none⟩ = some (.int .i64 cur) := Blk.cell b3 3; have a4 : World.cell? w3 ⟨w.heap.size, 4, none⟩ = some (.int .i64 tax) := Blk.cell b3 4; have a5 : World.cell? w3 ⟨w.heap.size, 5, none⟩ = some (.slice A n c) := Blk.cell b3 5; have a6 : World.cell? w3 ⟨w.heap.size, 6, none⟩ = some (.int .i64 paid) := Blk.cell b3 6; have a7 : World.cell? w3 ⟨w.heap.size, 7, none⟩ = some (.int .i64 refunded) := Blk.cell b3 7; have a8 : World.cell? w3 ⟨w.heap.size, 8, none⟩ = some (.int .i64 events) := Blk.cell b3 8; have a9 : World.cell? w3 ⟨w.heap.size, 9, none⟩ = some (.int .i64 refused) := Blk.cell b3 9; have a10 : World.cell? w3 ⟨w.heap.size, 10, none⟩ = some (.int .i64 stamp) := Blk.cell b3 10; have a11 : World.cell? w3 ⟨w.heap.size, 11, none⟩ = some (.string who) := Blk.cell b3 11))
    | (go_at_call 210; (with_reducible refine (K4.out _).mono ?_); rintro e w4 ⟨rfl, hx4⟩; have b4 : Blk w4 w.heap.size 77 #[.int .i64 order, .int .i64 status, .int .i64 prior, .int .i64 cur, .int .i64 tax, .slice A n c, .int .i64 paid, .int .i64 refunded, .int .i64 events, .int .i64 refused, .int .i64 stamp, .string who] := Ext.blk hx4 b3; have y4 : Ext w w4 := exA; (have a0 : World.cell? w4 ⟨w.heap.size, 0, none⟩ = some (.int .i64 order) := Blk.cell b4 0; have a1 : World.cell? w4 ⟨w.heap.size, 1, none⟩ = some (.int .i64 status) := Blk.cell b4 1; have a2 : World.cell? w4 ⟨w.heap.size, 2, none⟩ = some (.int .i64 prior) := Blk.cell b4 2; have a3 : World.cell? w4 ⟨w.heap.size, 3, none⟩ = some (.int .i64 cur) := Blk.cell b4 3; have a4 : World.cell? w4 ⟨w.heap.size, 4, none⟩ = some (.int .i64 tax) := Blk.cell b4 4; have a5 : World.cell? w4 ⟨w.heap.size, 5, none⟩ = some (.slice A n c) := Blk.cell b4 5; have a6 : World.cell? w4 ⟨w.heap.size, 6, none⟩ = some (.int .i64 paid) := Blk.cell b4 6; have a7 : World.cell? w4 ⟨w.heap.size, 7, none⟩ = some (.int .i64 refunded) := Blk.cell b4 7; have a8 : World.cell? w4 ⟨w.heap.size, 8, none⟩ = some (.int .i64 events) := Blk.cell b4 8; have a9 : World.cell? w4 ⟨w.heap.size, 9, none⟩ = some (.int .i64 refused) := Blk.cell b4 9; have a10 : World.cell? w4 ⟨w.heap.size, 10, none⟩ = some (.int .i64 stamp) := Blk.cell b4 10; have a11 : World.cell? w4 ⟨w.heap.size, 11, none⟩ = some (.string who) := Blk.cell b4 11))
    | (go_at_call 211; (with_reducible refine (K5.out _ (hr.ext y4)).mono ?_); rintro e w5 ⟨rfl, hx5⟩; have b5 : Blk w5 w.heap.size 77 #[.int .i64 order, .int .i64 status, .int .i64 prior, .int .i64 cur, .int .i64 tax, .slice A n c, .int .i64 paid, .int .i64 refunded, .int .i64 events, .int .i64 refused, .int .i64 stamp, .string who] := Ext.blk hx5 b4; have y5 : Ext w w5 := exA; (have a0 : World.cell? w5 ⟨w.heap.size, 0, none⟩ = some (.int .i64 order) := Blk.cell b5 0; have a1 : World.cell? w5 ⟨w.heap.size, 1, none⟩ = some (.int .i64 status) := Blk.cell b5 1; have a2 : World.cell? w5 ⟨w.heap.size, 2, none⟩ = some (.int .i64 prior) := Blk.cell b5 2; have a3 : World.cell? w5 ⟨w.heap.size, 3, none⟩ = some (.int .i64 cur) := Blk.cell b5 3; have a4 : World.cell? w5 ⟨w.heap.size, 4, none⟩ = some (.int .i64 tax) := Blk.cell b5 4; have a5 : World.cell? w5 ⟨w.heap.size, 5, none⟩ = some (.slice A n c) := Blk.cell b5 5; have a6 : World.cell? w5 ⟨w.heap.size, 6, none⟩ = some (.int .i64 paid) := Blk.cell b5 6; have a7 : World.cell? w5 ⟨w.heap.size, 7, none⟩ = some (.int .i64 refunded) := Blk.cell b5 7; have a8 : World.cell? w5 ⟨w.heap.size, 8, none⟩ = some (.int .i64 events) := Blk.cell b5 8; have a9 : World.cell? w5 ⟨w.heap.size, 9, none⟩ = some (.int .i64 refused) := Blk.cell b5 9; have a10 : World.cell? w5 ⟨w.heap.size, 10, none⟩ = some (.int .i64 stamp) := Blk.cell b5 10; have a11 : World.cell? w5 ⟨w.heap.size, 11, none⟩ = some (.string who) := Blk.cell b5 11))
    | (go_at_call 210; (with_reducible refine (K6.out _).mono ?_); rintro e w6 ⟨rfl, hx6⟩; have b6 : Blk w6 w.heap.size 77 #[.int .i64 order, .int .i64 status, .int .i64 prior, .int .i64 cur, .int .i64 tax, .slice A n c, .int .i64 paid, .int .i64 refunded, .int .i64 events, .int .i64 refused, .int .i64 stamp, .string who] := Ext.blk hx6 b5; have y6 : Ext w w6 := exA; (have a0 : World.cell? w6 ⟨w.heap.size, 0, none⟩ = some (.int .i64 order) := Blk.cell b6 0; have a1 : World.cell? w6 ⟨w.heap.size, 1, none⟩ = some (.int .i64 status) := Blk.cell b6 1; have a2 : World.cell? w6 ⟨w.heap.size, 2, none⟩ = some (.int .i64 prior) := Blk.cell b6 2; have a3 : World.cell? w6 ⟨w.heap.size, 3, none⟩ = some (.int .i64 cur) := Blk.cell b6 3; have a4 : World.cell? w6 ⟨w.heap.size, 4, none⟩ = some (.int .i64 tax) := Blk.cell b6 4; have a5 : World.cell? w6 ⟨w.heap.size, 5, none⟩ = some (.slice A n c) := Blk.cell b6 5; have a6 : World.cell? w6 ⟨w.heap.size, 6, none⟩ = some (.int .i64 paid) := Blk.cell b6 6; have a7 : World.cell? w6 ⟨w.heap.size, 7, none⟩ = some (.int .i64 refunded) := Blk.cell b6 7; have a8 : World.cell? w6 ⟨w.heap.size, 8, none⟩ = some (.int .i64 events) := Blk.cell b6 8; have a9 : World.cell? w6 ⟨w.heap.size, 9, none⟩ = some (.int .i64 refused) := Blk.cell b6 9; have a10 : World.cell? w6 ⟨w.heap.size, 10, none⟩ = some (.int .i64 stamp) := Blk.cell b6 10; have a11 : World.cell? w6 ⟨w.heap.size, 11, none⟩ = some (.string who) := Blk.cell b6 11))
    | (go_at_call 210; (with_reducible refine (K7.out _).mono ?_); rintro e w7 ⟨rfl, hx7⟩; have b7 : Blk w7 w.heap.size 77 #[.int .i64 order, .int .i64 status, .int .i64 prior, .int .i64 cur, .int .i64 tax, .slice A n c, .int .i64 paid, .int .i64 refunded, .int .i64 events, .int .i64 refused, .int .i64 stamp, .string who] := Ext.blk hx7 b6; have y7 : Ext w w7 := exA; (have a0 : World.cell? w7 ⟨w.heap.size, 0, none⟩ = some (.int .i64 order) := Blk.cell b7 0; have a1 : World.cell? w7 ⟨w.heap.size, 1, none⟩ = some (.int .i64 status) := Blk.cell b7 1; have a2 : World.cell? w7 ⟨w.heap.size, 2, none⟩ = some (.int .i64 prior) := Blk.cell b7 2; have a3 : World.cell? w7 ⟨w.heap.size, 3, none⟩ = some (.int .i64 cur) := Blk.cell b7 3; have a4 : World.cell? w7 ⟨w.heap.size, 4, none⟩ = some (.int .i64 tax) := Blk.cell b7 4; have a5 : World.cell? w7 ⟨w.heap.size, 5, none⟩ = some (.slice A n c) := Blk.cell b7 5; have a6 : World.cell? w7 ⟨w.heap.size, 6, none⟩ = some (.int .i64 paid) := Blk.cell b7 6; have a7 : World.cell? w7 ⟨w.heap.size, 7, none⟩ = some (.int .i64 refunded) := Blk.cell b7 7; have a8 : World.cell? w7 ⟨w.heap.size, 8, none⟩ = some (.int .i64 events) := Blk.cell b7 8; have a9 : World.cell? w7 ⟨w.heap.size, 9, none⟩ = some (.int .i64 refused) := Blk.cell b7 9; have a10 : World.cell? w7 ⟨w.heap.size, 10, none⟩ = some (.int .i64 stamp) := Blk.cell b7 10; have a11 : World.cell? w7 ⟨w.heap.size, 11, none⟩ = some (.string who) := Blk.cell b7 11))
    | (go_at_call 210; (with_reducible refine (K8.out _).mono ?_); rintro e w8 ⟨rfl, hx8⟩; have b8 : Blk w8 w.heap.size 77 #[.int .i64 order, .int .i64 status, .int .i64 prior, .int .i64 cur, .int .i64 tax, .slice A n c, .int .i64 paid, .int .i64 refunded, .int .i64 events, .int .i64 refused, .int .i64 stamp, .string who] := Ext.blk hx8 b7; have y8 : Ext w w8 := exA; (have a0 : World.cell? w8 ⟨w.heap.size, 0, none⟩ = some (.int .i64 order) := Blk.cell b8 0; have a1 : World.cell? w8 ⟨w.heap.size, 1, none⟩ = some (.int .i64 status) := Blk.cell b8 1; have a2 : World.cell? w8 ⟨w.heap.size, 2, none⟩ = some (.int .i64 prior) := Blk.cell b8 2; have a3 : World.cell? w8 ⟨w.heap.size, 3, none⟩ = some (.int .i64 cur) := Blk.cell b8 3; have a4 : World.cell? w8 ⟨w.heap.size, 4, none⟩ = some (.int .i64 tax) := Blk.cell b8 4; have a5 : World.cell? w8 ⟨w.heap.size, 5, none⟩ = some (.slice A n c) := Blk.cell b8 5; have a6 : World.cell? w8 ⟨w.heap.size, 6, none⟩ = some (.int .i64 paid) := Blk.cell b8 6; have a7 : World.cell? w8 ⟨w.heap.size, 7, none⟩ = some (.int .i64 refunded) := Blk.cell b8 7; have a8 : World.cell? w8 ⟨w.heap.size, 8, none⟩ = some (.int .i64 events) := Blk.cell b8 8; have a9 : World.cell? w8 ⟨w.heap.size, 9, none⟩ = some (.int .i64 refused) := Blk.cell b8 9; have a10 : World.cell? w8 ⟨w.heap.size, 10, none⟩ = some (.int .i64 stamp) := Blk.cell b8 10; have a11 : World.cell? w8 ⟨w.heap.size, 11, none⟩ = some (.string who) := Blk.cell b8 11))
    | (go_at_call 210; (with_reducible refine (K9.out _).mono ?_); rintro e w9 ⟨rfl, hx9⟩; have b9 : Blk w9 w.heap.size 77 #[.int .i64 order, .int .i64 status, .int .i64 prior, .int .i64 cur, .int .i64 tax, .slice A n c, .int .i64 paid, .int .i64 refunded, .int .i64 events, .int .i64 refused, .int .i64 stamp, .string who] := Ext.blk hx9 b8; have y9 : Ext w w9 := exA; (have a0 : World.cell? w9 ⟨w.heap.size, 0, none⟩ = some (.int .i64 order) := Blk.cell b9 0; have a1 : World.cell? w9 ⟨w.heap.size, 1, none⟩ = some (.int .i64 status) := Blk.cell b9 1; have a2 : World.cell? w9 ⟨w.heap.size, 2, none⟩ = some (.int .i64 prior) := Blk.cell b9 2; have a3 : World.cell? w9 ⟨w.heap.size, 3, none⟩ = some (.int .i64 cur) := Blk.cell b9 3; have a4 : World.cell? w9 ⟨w.heap.size, 4, none⟩ = some (.int .i64 tax) := Blk.cell b9 4; have a5 : World.cell? w9 ⟨w.heap.size, 5, none⟩ = some (.slice A n c) := Blk.cell b9 5; have a6 : World.cell? w9 ⟨w.heap.size, 6, none⟩ = some (.int .i64 paid) := Blk.cell b9 6; have a7 : World.cell? w9 ⟨w.heap.size, 7, none⟩ = some (.int .i64 refunded) := Blk.cell b9 7; have a8 : World.cell? w9 ⟨w.heap.size, 8, none⟩ = some (.int .i64 events) := Blk.cell b9 8; have a9 : World.cell? w9 ⟨w.heap.size, 9, none⟩ = some (.int .i64 refused) := Blk.cell b9 9; have a10 : World.cell? w9 ⟨w.heap.size, 10, none⟩ = some (.int .i64 stamp) := Blk.cell b9 10; have a11 : World.cell? w9 ⟨w.heap.size, 11, none⟩ = some (.string who) := Blk.cell b9 11))
    | (go_at_call 212; (with_reducible refine (K10.out _).mono ?_); rintro e w10 ⟨rfl, hx10⟩; have y10 : Ext w w10 := exA))
  all_goals
    go_ret
    exact ⟨by rw [Hv.out]; simp [*], exA⟩
end Go.Proofs.YtjajbbgebblalaaGreatDoor

namespace Go.Proofs.YtjajbbgebblalaaGreatDoor
open Go.RowKit
set_option linter.unusedVariables false
set_option linter.unusedSimpArgs false
theorem beq_dec (x y : Int) : (x == y) = decide (x = y) := by rw [Bool.eq_iff_iff]; simp
theorem who_empty (s : ByteArray) : s.toList.isEmpty = decide (s.size = 0) := by
  rw [ByteArray.toList_eq]
  have h : s.size = s.data.toList.length := by simp
  rw [h]
  cases s.data.toList <;> simp
set_option maxRecDepth 100000 in
set_option maxHeartbeats 4000000 in
theorem valid_any (s : St) (A : Option Addr) (c : Nat) (w : World) (hr : LsRd w A s.lines) (hn : s.lines.length ≤ 4611686018427387904) (hw : s.who.size ≤ 4611686018427387904) :
    Calls Tryz.prog 117 #[.agg (stcells s A c)] w fun e w' => e = .returned (.bool (validB s)) ∧ Ext w w' := by
  have K1 := Lib.hid fun W (h : LsRd W A s.lines) => bounded_any s A c W h hn hw
  have K2 : Hid (boundedB s = true → ∀ W, LsRd W A s.lines → Calls Tryz.prog 160 #[.agg (stcells s A c)] W fun e w2 => e = .returned (.int .i64 (due s)) ∧ Ext W w2) := Lib.hid fun hb W h => by
    simp only [boundedB, and_t, linedB, wi_iff, decide_eq_true_eq] at hb
    exact due_any s A c W h (fun l hl => (rises_mem hb.1.1.1.1.1.2.2 l hl).1) hb.1.1.1.1.1.2.1 hb.1.1.1.1.1.1.2
  have K3 := Lib.hid fun W (h : LsRd W A s.lines) => shipped_any s A c W h hn
  have Hv : Hid (validB s = (boundedB s && decide (s.paid ≤ due s) && priorB s && standsB s (standsAt s))) := Lib.hid rfl
  unfold priorB standsB standsAt fullB at Hv
  have hl0 : (s.lines = []) = (s.lines.length = 0) := by simp
  simp only [hl0] at Hv
  generalize boundedB s = B at *
  generalize due s = D at *
  generalize noneB s.lines = N at *
  generalize allB s.lines = AL at *
  generalize validB s = R at *
  clear hl0
  obtain ⟨order, status, prior, cur, tax, ls, paid, refunded, events, refused, stamp, who⟩ := s
  unfold stcells at *
  dsimp only at *
  generalize ls.length = n at *
  have HS := Lib.hid (fun w' (h : Ext (w.alloc (.cells #[.int .i64 order, .int .i64 status, .int .i64 prior, .int .i64 cur, .int .i64 tax, .slice A n c, .int .i64 paid, .int .i64 refunded, .int .i64 events, .int .i64 refused, .int .i64 stamp, .string who] 77)) w') => (⟨h, (Ext.blk h (BlkN rfl)).cell 0, (Ext.blk h (BlkN rfl)).cell 1, (Ext.blk h (BlkN rfl)).cell 2, (Ext.blk h (BlkN rfl)).cell 3, (Ext.blk h (BlkN rfl)).cell 4, (Ext.blk h (BlkN rfl)).cell 5, (Ext.blk h (BlkN rfl)).cell 6, (Ext.blk h (BlkN rfl)).cell 7, (Ext.blk h (BlkN rfl)).cell 8, (Ext.blk h (BlkN rfl)).cell 9, (Ext.blk h (BlkN rfl)).cell 10, (Ext.blk h (BlkN rfl)).cell 11⟩ : (fun w' : World => Ext (w.alloc (.cells #[.int .i64 order, .int .i64 status, .int .i64 prior, .int .i64 cur, .int .i64 tax, .slice A n c, .int .i64 paid, .int .i64 refunded, .int .i64 events, .int .i64 refused, .int .i64 stamp, .string who] 77)) w' ∧ w'.cell? ⟨w.heap.size, 0, none⟩ = some (.int .i64 order) ∧ w'.cell? ⟨w.heap.size, 1, none⟩ = some (.int .i64 status) ∧ w'.cell? ⟨w.heap.size, 2, none⟩ = some (.int .i64 prior) ∧ w'.cell? ⟨w.heap.size, 3, none⟩ = some (.int .i64 cur) ∧ w'.cell? ⟨w.heap.size, 4, none⟩ = some (.int .i64 tax) ∧ w'.cell? ⟨w.heap.size, 5, none⟩ = some (.slice A n c) ∧ w'.cell? ⟨w.heap.size, 6, none⟩ = some (.int .i64 paid) ∧ w'.cell? ⟨w.heap.size, 7, none⟩ = some (.int .i64 refunded) ∧ w'.cell? ⟨w.heap.size, 8, none⟩ = some (.int .i64 events) ∧ w'.cell? ⟨w.heap.size, 9, none⟩ = some (.int .i64 refused) ∧ w'.cell? ⟨w.heap.size, 10, none⟩ = some (.int .i64 stamp) ∧ w'.cell? ⟨w.heap.size, 11, none⟩ = some (.string who)) w'))
  cases B with
  | false =>
    go_enter Tryz.func117, Tryz.ntmps117
    go_wp2_with fail
    first | (go_region_with (first
      | (go_at_call 159; (with_reducible refine (K1.out _ (hr.ext exA)).mono ?_); rintro e w1 ⟨rfl, hx1⟩))) | fail
    all_goals
      go_wp2_with fail
      go_ret
      exact ⟨by rw [Hv.out]; rfl, exA⟩
  | true =>
    have KD := Lib.hid (K2.out rfl)
    clear K2
    by_cases h2 : status = 2
    · have ts : (status == 2) = true := by simp; exact h2
      have Hs := Lib.hid h2
      clear h2
      by_cases h1 : prior = 1
      · have t1 : (prior != 1) = false := by simp; exact h1
        have u0 : (prior == 0) = false := by simp; omega
        have u1 : (prior == 1) = true := by simp; exact h1
        have Hp := Lib.hid h1
        clear h1
        go_enter Tryz.func117, Tryz.ntmps117
        go_wp2_with fail
        first | (go_region_held3 (fun w' : World => Ext (w.alloc (.cells #[.int .i64 order, .int .i64 status, .int .i64 prior, .int .i64 cur, .int .i64 tax, .slice A n c, .int .i64 paid, .int .i64 refunded, .int .i64 events, .int .i64 refused, .int .i64 stamp, .string who] 77)) w' ∧ w'.cell? ⟨w.heap.size, 0, none⟩ = some (.int .i64 order) ∧ w'.cell? ⟨w.heap.size, 1, none⟩ = some (.int .i64 status) ∧ w'.cell? ⟨w.heap.size, 2, none⟩ = some (.int .i64 prior) ∧ w'.cell? ⟨w.heap.size, 3, none⟩ = some (.int .i64 cur) ∧ w'.cell? ⟨w.heap.size, 4, none⟩ = some (.int .i64 tax) ∧ w'.cell? ⟨w.heap.size, 5, none⟩ = some (.slice A n c) ∧ w'.cell? ⟨w.heap.size, 6, none⟩ = some (.int .i64 paid) ∧ w'.cell? ⟨w.heap.size, 7, none⟩ = some (.int .i64 refunded) ∧ w'.cell? ⟨w.heap.size, 8, none⟩ = some (.int .i64 events) ∧ w'.cell? ⟨w.heap.size, 9, none⟩ = some (.int .i64 refused) ∧ w'.cell? ⟨w.heap.size, 10, none⟩ = some (.int .i64 stamp) ∧ w'.cell? ⟨w.heap.size, 11, none⟩ = some (.string who))
          (exact HS.out _ exA)
          (first
            | (go_at_call 159; (with_reducible refine (K1.out _ (hr.ext exA)).mono ?_); rintro e w1 ⟨rfl, hx1⟩)
            | (go_at_call 160; (with_reducible refine (KD.out _ (hr.ext exA)).mono ?_); rintro e w2 ⟨rfl, hx2⟩))) | fail
        go_split_ands
        go_wp2_with (go_at_call 161; (with_reducible refine (K3.out _ (hr.ext exA)).mono ?_); rintro e w3 ⟨rfl, hx3⟩; have h3 := HS.out w3 exA; go_split_ands)
        all_goals try (go_ret; refine ⟨?_, exA⟩; have hs := Hs.out; have hp := Hp.out; (first | (have hf := Hf.out) | skip); (first | (have h0 := g0.out) | skip); rw [Hv.out]; clear K1 K3 KD HS; (first | (simp only [beq_iff_eq, beq_eq_false_iff_ne, ne_eq] at *) | skip); first | rfl | (simp [*, beq_dec, who_empty]; done) | (simp [*, beq_dec, who_empty]; omega))
        by_cases hf : paid = D
        · have f1 : (paid == D) = true := by simp; exact hf
          have Hf := Lib.hid hf
          clear hf
          by_cases h0 : 0 < paid
          · have g0 := Lib.hid h0
            first | (go_region_held3 (fun w' : World => Ext (w.alloc (.cells #[.int .i64 order, .int .i64 status, .int .i64 prior, .int .i64 cur, .int .i64 tax, .slice A n c, .int .i64 paid, .int .i64 refunded, .int .i64 events, .int .i64 refused, .int .i64 stamp, .string who] 77)) w' ∧ w'.cell? ⟨w.heap.size, 0, none⟩ = some (.int .i64 order) ∧ w'.cell? ⟨w.heap.size, 1, none⟩ = some (.int .i64 status) ∧ w'.cell? ⟨w.heap.size, 2, none⟩ = some (.int .i64 prior) ∧ w'.cell? ⟨w.heap.size, 3, none⟩ = some (.int .i64 cur) ∧ w'.cell? ⟨w.heap.size, 4, none⟩ = some (.int .i64 tax) ∧ w'.cell? ⟨w.heap.size, 5, none⟩ = some (.slice A n c) ∧ w'.cell? ⟨w.heap.size, 6, none⟩ = some (.int .i64 paid) ∧ w'.cell? ⟨w.heap.size, 7, none⟩ = some (.int .i64 refunded) ∧ w'.cell? ⟨w.heap.size, 8, none⟩ = some (.int .i64 events) ∧ w'.cell? ⟨w.heap.size, 9, none⟩ = some (.int .i64 refused) ∧ w'.cell? ⟨w.heap.size, 10, none⟩ = some (.int .i64 stamp) ∧ w'.cell? ⟨w.heap.size, 11, none⟩ = some (.string who))
              (exact HS.out _ exA)
              (first
                | (go_at_call 160; (with_reducible refine (KD.out _ (hr.ext exA)).mono ?_); rintro e w4 ⟨rfl, hx4⟩))) | fail
            go_split_ands
            go_wp2_with fail
            all_goals (go_ret; refine ⟨?_, exA⟩; have hs := Hs.out; have hp := Hp.out; (first | (have hf := Hf.out) | skip); (first | (have h0 := g0.out) | skip); rw [Hv.out]; clear K1 K3 KD HS; (first | (simp only [beq_iff_eq, beq_eq_false_iff_ne, ne_eq] at *) | skip); first | rfl | (simp [*, beq_dec, who_empty]; done) | (simp [*, beq_dec, who_empty]; omega))
          · have g0 := Lib.hid h0
            first | (go_region_held3 (fun w' : World => Ext (w.alloc (.cells #[.int .i64 order, .int .i64 status, .int .i64 prior, .int .i64 cur, .int .i64 tax, .slice A n c, .int .i64 paid, .int .i64 refunded, .int .i64 events, .int .i64 refused, .int .i64 stamp, .string who] 77)) w' ∧ w'.cell? ⟨w.heap.size, 0, none⟩ = some (.int .i64 order) ∧ w'.cell? ⟨w.heap.size, 1, none⟩ = some (.int .i64 status) ∧ w'.cell? ⟨w.heap.size, 2, none⟩ = some (.int .i64 prior) ∧ w'.cell? ⟨w.heap.size, 3, none⟩ = some (.int .i64 cur) ∧ w'.cell? ⟨w.heap.size, 4, none⟩ = some (.int .i64 tax) ∧ w'.cell? ⟨w.heap.size, 5, none⟩ = some (.slice A n c) ∧ w'.cell? ⟨w.heap.size, 6, none⟩ = some (.int .i64 paid) ∧ w'.cell? ⟨w.heap.size, 7, none⟩ = some (.int .i64 refunded) ∧ w'.cell? ⟨w.heap.size, 8, none⟩ = some (.int .i64 events) ∧ w'.cell? ⟨w.heap.size, 9, none⟩ = some (.int .i64 refused) ∧ w'.cell? ⟨w.heap.size, 10, none⟩ = some (.int .i64 stamp) ∧ w'.cell? ⟨w.heap.size, 11, none⟩ = some (.string who))
              (exact HS.out _ exA)
              (first
                | (go_at_call 160; (with_reducible refine (KD.out _ (hr.ext exA)).mono ?_); rintro e w4 ⟨rfl, hx4⟩))) | fail
            go_split_ands
            go_wp2_with fail
            all_goals (go_ret; refine ⟨?_, exA⟩; have hs := Hs.out; have hp := Hp.out; (first | (have hf := Hf.out) | skip); (first | (have h0 := g0.out) | skip); rw [Hv.out]; clear K1 K3 KD HS; (first | (simp only [beq_iff_eq, beq_eq_false_iff_ne, ne_eq] at *) | skip); first | rfl | (simp [*, beq_dec, who_empty]; done) | (simp [*, beq_dec, who_empty]; omega))
        · have f1 : (paid == D) = false := by simp; exact hf
          have Hf := Lib.hid hf
          clear hf
          first | (go_region_with (first
              | (go_at_call 160; (with_reducible refine (KD.out _ (hr.ext exA)).mono ?_); rintro e w4 ⟨rfl, hx4⟩; have h4 := HS.out w4 exA; go_split_ands))) | fail
          all_goals
            go_wp2_with fail
            all_goals (go_ret; refine ⟨?_, exA⟩; have hs := Hs.out; have hp := Hp.out; (first | (have hf := Hf.out) | skip); (first | (have h0 := g0.out) | skip); rw [Hv.out]; clear K1 K3 KD HS; (first | (simp only [beq_iff_eq, beq_eq_false_iff_ne, ne_eq] at *) | skip); first | rfl | (simp [*, beq_dec, who_empty]; done) | (simp [*, beq_dec, who_empty]; omega))
      by_cases h3 : prior = 3
      · have t1 : (prior != 1) = true := by simp; omega
        have t3 : (prior != 3) = false := by simp; omega
        have u0 : (prior == 0) = false := by simp; omega
        have u1 : (prior == 1) = false := by simp; omega
        have u3 : (prior == 3) = true := by simp; omega
        have Hp := Lib.hid h3
        clear h1 h3
        go_enter Tryz.func117, Tryz.ntmps117
        go_wp2_with fail
        first | (go_region_held3 (fun w' : World => Ext (w.alloc (.cells #[.int .i64 order, .int .i64 status, .int .i64 prior, .int .i64 cur, .int .i64 tax, .slice A n c, .int .i64 paid, .int .i64 refunded, .int .i64 events, .int .i64 refused, .int .i64 stamp, .string who] 77)) w' ∧ w'.cell? ⟨w.heap.size, 0, none⟩ = some (.int .i64 order) ∧ w'.cell? ⟨w.heap.size, 1, none⟩ = some (.int .i64 status) ∧ w'.cell? ⟨w.heap.size, 2, none⟩ = some (.int .i64 prior) ∧ w'.cell? ⟨w.heap.size, 3, none⟩ = some (.int .i64 cur) ∧ w'.cell? ⟨w.heap.size, 4, none⟩ = some (.int .i64 tax) ∧ w'.cell? ⟨w.heap.size, 5, none⟩ = some (.slice A n c) ∧ w'.cell? ⟨w.heap.size, 6, none⟩ = some (.int .i64 paid) ∧ w'.cell? ⟨w.heap.size, 7, none⟩ = some (.int .i64 refunded) ∧ w'.cell? ⟨w.heap.size, 8, none⟩ = some (.int .i64 events) ∧ w'.cell? ⟨w.heap.size, 9, none⟩ = some (.int .i64 refused) ∧ w'.cell? ⟨w.heap.size, 10, none⟩ = some (.int .i64 stamp) ∧ w'.cell? ⟨w.heap.size, 11, none⟩ = some (.string who))
          (exact HS.out _ exA)
          (first
            | (go_at_call 159; (with_reducible refine (K1.out _ (hr.ext exA)).mono ?_); rintro e w1 ⟨rfl, hx1⟩)
            | (go_at_call 160; (with_reducible refine (KD.out _ (hr.ext exA)).mono ?_); rintro e w2 ⟨rfl, hx2⟩))) | fail
        go_split_ands
        go_wp2_with (go_at_call 161; (with_reducible refine (K3.out _ (hr.ext exA)).mono ?_); rintro e w3 ⟨rfl, hx3⟩; have h3 := HS.out w3 exA; go_split_ands)
        all_goals try (go_ret; refine ⟨?_, exA⟩; have hs := Hs.out; have hp := Hp.out; (first | (have hf := Hf.out) | skip); (first | (have h0 := g0.out) | skip); rw [Hv.out]; clear K1 K3 KD HS; (first | (simp only [beq_iff_eq, beq_eq_false_iff_ne, ne_eq] at *) | skip); first | rfl | (simp [*, beq_dec, who_empty]; done) | (simp [*, beq_dec, who_empty]; omega))
        by_cases hf : paid = D
        · have f1 : (paid == D) = true := by simp; exact hf
          have Hf := Lib.hid hf
          clear hf
          by_cases h0 : 0 < paid
          · have g0 := Lib.hid h0
            first | (go_region_held3 (fun w' : World => Ext (w.alloc (.cells #[.int .i64 order, .int .i64 status, .int .i64 prior, .int .i64 cur, .int .i64 tax, .slice A n c, .int .i64 paid, .int .i64 refunded, .int .i64 events, .int .i64 refused, .int .i64 stamp, .string who] 77)) w' ∧ w'.cell? ⟨w.heap.size, 0, none⟩ = some (.int .i64 order) ∧ w'.cell? ⟨w.heap.size, 1, none⟩ = some (.int .i64 status) ∧ w'.cell? ⟨w.heap.size, 2, none⟩ = some (.int .i64 prior) ∧ w'.cell? ⟨w.heap.size, 3, none⟩ = some (.int .i64 cur) ∧ w'.cell? ⟨w.heap.size, 4, none⟩ = some (.int .i64 tax) ∧ w'.cell? ⟨w.heap.size, 5, none⟩ = some (.slice A n c) ∧ w'.cell? ⟨w.heap.size, 6, none⟩ = some (.int .i64 paid) ∧ w'.cell? ⟨w.heap.size, 7, none⟩ = some (.int .i64 refunded) ∧ w'.cell? ⟨w.heap.size, 8, none⟩ = some (.int .i64 events) ∧ w'.cell? ⟨w.heap.size, 9, none⟩ = some (.int .i64 refused) ∧ w'.cell? ⟨w.heap.size, 10, none⟩ = some (.int .i64 stamp) ∧ w'.cell? ⟨w.heap.size, 11, none⟩ = some (.string who))
              (exact HS.out _ exA)
              (first
                | (go_at_call 160; (with_reducible refine (KD.out _ (hr.ext exA)).mono ?_); rintro e w4 ⟨rfl, hx4⟩))) | fail
            go_split_ands
            go_wp2_with fail
            all_goals (go_ret; refine ⟨?_, exA⟩; have hs := Hs.out; have hp := Hp.out; (first | (have hf := Hf.out) | skip); (first | (have h0 := g0.out) | skip); rw [Hv.out]; clear K1 K3 KD HS; (first | (simp only [beq_iff_eq, beq_eq_false_iff_ne, ne_eq] at *) | skip); first | rfl | (simp [*, beq_dec, who_empty]; done) | (simp [*, beq_dec, who_empty]; omega))
          · have g0 := Lib.hid h0
            first | (go_region_held3 (fun w' : World => Ext (w.alloc (.cells #[.int .i64 order, .int .i64 status, .int .i64 prior, .int .i64 cur, .int .i64 tax, .slice A n c, .int .i64 paid, .int .i64 refunded, .int .i64 events, .int .i64 refused, .int .i64 stamp, .string who] 77)) w' ∧ w'.cell? ⟨w.heap.size, 0, none⟩ = some (.int .i64 order) ∧ w'.cell? ⟨w.heap.size, 1, none⟩ = some (.int .i64 status) ∧ w'.cell? ⟨w.heap.size, 2, none⟩ = some (.int .i64 prior) ∧ w'.cell? ⟨w.heap.size, 3, none⟩ = some (.int .i64 cur) ∧ w'.cell? ⟨w.heap.size, 4, none⟩ = some (.int .i64 tax) ∧ w'.cell? ⟨w.heap.size, 5, none⟩ = some (.slice A n c) ∧ w'.cell? ⟨w.heap.size, 6, none⟩ = some (.int .i64 paid) ∧ w'.cell? ⟨w.heap.size, 7, none⟩ = some (.int .i64 refunded) ∧ w'.cell? ⟨w.heap.size, 8, none⟩ = some (.int .i64 events) ∧ w'.cell? ⟨w.heap.size, 9, none⟩ = some (.int .i64 refused) ∧ w'.cell? ⟨w.heap.size, 10, none⟩ = some (.int .i64 stamp) ∧ w'.cell? ⟨w.heap.size, 11, none⟩ = some (.string who))
              (exact HS.out _ exA)
              (first
                | (go_at_call 160; (with_reducible refine (KD.out _ (hr.ext exA)).mono ?_); rintro e w4 ⟨rfl, hx4⟩))) | fail
            go_split_ands
            go_wp2_with fail
            all_goals (go_ret; refine ⟨?_, exA⟩; have hs := Hs.out; have hp := Hp.out; (first | (have hf := Hf.out) | skip); (first | (have h0 := g0.out) | skip); rw [Hv.out]; clear K1 K3 KD HS; (first | (simp only [beq_iff_eq, beq_eq_false_iff_ne, ne_eq] at *) | skip); first | rfl | (simp [*, beq_dec, who_empty]; done) | (simp [*, beq_dec, who_empty]; omega))
        · have f1 : (paid == D) = false := by simp; exact hf
          have Hf := Lib.hid hf
          clear hf
          first | (go_region_with (first
              | (go_at_call 160; (with_reducible refine (KD.out _ (hr.ext exA)).mono ?_); rintro e w4 ⟨rfl, hx4⟩; have h4 := HS.out w4 exA; go_split_ands))) | fail
          all_goals
            go_wp2_with fail
            all_goals (go_ret; refine ⟨?_, exA⟩; have hs := Hs.out; have hp := Hp.out; (first | (have hf := Hf.out) | skip); (first | (have h0 := g0.out) | skip); rw [Hv.out]; clear K1 K3 KD HS; (first | (simp only [beq_iff_eq, beq_eq_false_iff_ne, ne_eq] at *) | skip); first | rfl | (simp [*, beq_dec, who_empty]; done) | (simp [*, beq_dec, who_empty]; omega))
      · have t1 : (prior != 1) = true := by simp; omega
        have t3 : (prior != 3) = true := by simp; omega
        have Hp := Lib.hid (And.intro h1 h3)
        clear h1 h3
        go_enter Tryz.func117, Tryz.ntmps117
        go_wp2_with fail
        first | (go_region_held3 (fun w' : World => Ext (w.alloc (.cells #[.int .i64 order, .int .i64 status, .int .i64 prior, .int .i64 cur, .int .i64 tax, .slice A n c, .int .i64 paid, .int .i64 refunded, .int .i64 events, .int .i64 refused, .int .i64 stamp, .string who] 77)) w' ∧ w'.cell? ⟨w.heap.size, 0, none⟩ = some (.int .i64 order) ∧ w'.cell? ⟨w.heap.size, 1, none⟩ = some (.int .i64 status) ∧ w'.cell? ⟨w.heap.size, 2, none⟩ = some (.int .i64 prior) ∧ w'.cell? ⟨w.heap.size, 3, none⟩ = some (.int .i64 cur) ∧ w'.cell? ⟨w.heap.size, 4, none⟩ = some (.int .i64 tax) ∧ w'.cell? ⟨w.heap.size, 5, none⟩ = some (.slice A n c) ∧ w'.cell? ⟨w.heap.size, 6, none⟩ = some (.int .i64 paid) ∧ w'.cell? ⟨w.heap.size, 7, none⟩ = some (.int .i64 refunded) ∧ w'.cell? ⟨w.heap.size, 8, none⟩ = some (.int .i64 events) ∧ w'.cell? ⟨w.heap.size, 9, none⟩ = some (.int .i64 refused) ∧ w'.cell? ⟨w.heap.size, 10, none⟩ = some (.int .i64 stamp) ∧ w'.cell? ⟨w.heap.size, 11, none⟩ = some (.string who))
          (exact HS.out _ exA)
          (first
            | (go_at_call 159; (with_reducible refine (K1.out _ (hr.ext exA)).mono ?_); rintro e w1 ⟨rfl, hx1⟩)
            | (go_at_call 160; (with_reducible refine (KD.out _ (hr.ext exA)).mono ?_); rintro e w2 ⟨rfl, hx2⟩))) | fail
        go_split_ands
        go_wp2_with (go_at_call 161; (with_reducible refine (K3.out _ (hr.ext exA)).mono ?_); rintro e w3 ⟨rfl, hx3⟩; have h3 := HS.out w3 exA; go_split_ands)
        all_goals try (go_ret; refine ⟨?_, exA⟩; have hs := Hs.out; have hp := Hp.out; (first | (have hf := Hf.out) | skip); (first | (have h0 := g0.out) | skip); rw [Hv.out]; clear K1 K3 KD HS; (first | (simp only [beq_iff_eq, beq_eq_false_iff_ne, ne_eq] at *) | skip); first | rfl | (simp [*, beq_dec, who_empty]; done) | (simp [*, beq_dec, who_empty]; omega))
    · have ts : (status == 2) = false := by simp; omega
      have Hs := Lib.hid h2
      clear h2
      by_cases h1 : prior = 0
      · have t1 : (prior != 0) = false := by simp; omega
        have Hp := Lib.hid h1
        clear h1
        go_enter Tryz.func117, Tryz.ntmps117
        go_wp2_with fail
        first | (go_region_held3 (fun w' : World => Ext (w.alloc (.cells #[.int .i64 order, .int .i64 status, .int .i64 prior, .int .i64 cur, .int .i64 tax, .slice A n c, .int .i64 paid, .int .i64 refunded, .int .i64 events, .int .i64 refused, .int .i64 stamp, .string who] 77)) w' ∧ w'.cell? ⟨w.heap.size, 0, none⟩ = some (.int .i64 order) ∧ w'.cell? ⟨w.heap.size, 1, none⟩ = some (.int .i64 status) ∧ w'.cell? ⟨w.heap.size, 2, none⟩ = some (.int .i64 prior) ∧ w'.cell? ⟨w.heap.size, 3, none⟩ = some (.int .i64 cur) ∧ w'.cell? ⟨w.heap.size, 4, none⟩ = some (.int .i64 tax) ∧ w'.cell? ⟨w.heap.size, 5, none⟩ = some (.slice A n c) ∧ w'.cell? ⟨w.heap.size, 6, none⟩ = some (.int .i64 paid) ∧ w'.cell? ⟨w.heap.size, 7, none⟩ = some (.int .i64 refunded) ∧ w'.cell? ⟨w.heap.size, 8, none⟩ = some (.int .i64 events) ∧ w'.cell? ⟨w.heap.size, 9, none⟩ = some (.int .i64 refused) ∧ w'.cell? ⟨w.heap.size, 10, none⟩ = some (.int .i64 stamp) ∧ w'.cell? ⟨w.heap.size, 11, none⟩ = some (.string who))
          (exact HS.out _ exA)
          (first
            | (go_at_call 159; (with_reducible refine (K1.out _ (hr.ext exA)).mono ?_); rintro e w1 ⟨rfl, hx1⟩)
            | (go_at_call 160; (with_reducible refine (KD.out _ (hr.ext exA)).mono ?_); rintro e w2 ⟨rfl, hx2⟩))) | fail
        go_split_ands
        go_wp2_with (go_at_call 161; (with_reducible refine (K3.out _ (hr.ext exA)).mono ?_); rintro e w3 ⟨rfl, hx3⟩; have h3 := HS.out w3 exA; go_split_ands)
        all_goals try (go_ret; refine ⟨?_, exA⟩; have hs := Hs.out; have hp := Hp.out; (first | (have hf := Hf.out) | skip); (first | (have h0 := g0.out) | skip); rw [Hv.out]; clear K1 K3 KD HS; (first | (simp only [beq_iff_eq, beq_eq_false_iff_ne, ne_eq] at *) | skip); first | rfl | (simp [*, beq_dec, who_empty]; done) | (simp [*, beq_dec, who_empty]; omega))
        by_cases hf : paid = D
        · have f1 : (paid == D) = true := by simp; exact hf
          have Hf := Lib.hid hf
          clear hf
          by_cases h0 : 0 < paid
          · have g0 := Lib.hid h0
            first | (go_region_held3 (fun w' : World => Ext (w.alloc (.cells #[.int .i64 order, .int .i64 status, .int .i64 prior, .int .i64 cur, .int .i64 tax, .slice A n c, .int .i64 paid, .int .i64 refunded, .int .i64 events, .int .i64 refused, .int .i64 stamp, .string who] 77)) w' ∧ w'.cell? ⟨w.heap.size, 0, none⟩ = some (.int .i64 order) ∧ w'.cell? ⟨w.heap.size, 1, none⟩ = some (.int .i64 status) ∧ w'.cell? ⟨w.heap.size, 2, none⟩ = some (.int .i64 prior) ∧ w'.cell? ⟨w.heap.size, 3, none⟩ = some (.int .i64 cur) ∧ w'.cell? ⟨w.heap.size, 4, none⟩ = some (.int .i64 tax) ∧ w'.cell? ⟨w.heap.size, 5, none⟩ = some (.slice A n c) ∧ w'.cell? ⟨w.heap.size, 6, none⟩ = some (.int .i64 paid) ∧ w'.cell? ⟨w.heap.size, 7, none⟩ = some (.int .i64 refunded) ∧ w'.cell? ⟨w.heap.size, 8, none⟩ = some (.int .i64 events) ∧ w'.cell? ⟨w.heap.size, 9, none⟩ = some (.int .i64 refused) ∧ w'.cell? ⟨w.heap.size, 10, none⟩ = some (.int .i64 stamp) ∧ w'.cell? ⟨w.heap.size, 11, none⟩ = some (.string who))
              (exact HS.out _ exA)
              (first
                | (go_at_call 160; (with_reducible refine (KD.out _ (hr.ext exA)).mono ?_); rintro e w4 ⟨rfl, hx4⟩))) | fail
            go_split_ands
            go_wp2_with fail
            all_goals (go_ret; refine ⟨?_, exA⟩; have hs := Hs.out; have hp := Hp.out; (first | (have hf := Hf.out) | skip); (first | (have h0 := g0.out) | skip); rw [Hv.out]; clear K1 K3 KD HS; (first | (simp only [beq_iff_eq, beq_eq_false_iff_ne, ne_eq] at *) | skip); first | rfl | (simp [*, beq_dec, who_empty]; done) | (simp [*, beq_dec, who_empty]; omega))
          · have g0 := Lib.hid h0
            first | (go_region_held3 (fun w' : World => Ext (w.alloc (.cells #[.int .i64 order, .int .i64 status, .int .i64 prior, .int .i64 cur, .int .i64 tax, .slice A n c, .int .i64 paid, .int .i64 refunded, .int .i64 events, .int .i64 refused, .int .i64 stamp, .string who] 77)) w' ∧ w'.cell? ⟨w.heap.size, 0, none⟩ = some (.int .i64 order) ∧ w'.cell? ⟨w.heap.size, 1, none⟩ = some (.int .i64 status) ∧ w'.cell? ⟨w.heap.size, 2, none⟩ = some (.int .i64 prior) ∧ w'.cell? ⟨w.heap.size, 3, none⟩ = some (.int .i64 cur) ∧ w'.cell? ⟨w.heap.size, 4, none⟩ = some (.int .i64 tax) ∧ w'.cell? ⟨w.heap.size, 5, none⟩ = some (.slice A n c) ∧ w'.cell? ⟨w.heap.size, 6, none⟩ = some (.int .i64 paid) ∧ w'.cell? ⟨w.heap.size, 7, none⟩ = some (.int .i64 refunded) ∧ w'.cell? ⟨w.heap.size, 8, none⟩ = some (.int .i64 events) ∧ w'.cell? ⟨w.heap.size, 9, none⟩ = some (.int .i64 refused) ∧ w'.cell? ⟨w.heap.size, 10, none⟩ = some (.int .i64 stamp) ∧ w'.cell? ⟨w.heap.size, 11, none⟩ = some (.string who))
              (exact HS.out _ exA)
              (first
                | (go_at_call 160; (with_reducible refine (KD.out _ (hr.ext exA)).mono ?_); rintro e w4 ⟨rfl, hx4⟩))) | fail
            go_split_ands
            go_wp2_with fail
            all_goals (go_ret; refine ⟨?_, exA⟩; have hs := Hs.out; have hp := Hp.out; (first | (have hf := Hf.out) | skip); (first | (have h0 := g0.out) | skip); rw [Hv.out]; clear K1 K3 KD HS; (first | (simp only [beq_iff_eq, beq_eq_false_iff_ne, ne_eq] at *) | skip); first | rfl | (simp [*, beq_dec, who_empty]; done) | (simp [*, beq_dec, who_empty]; omega))
        · have f1 : (paid == D) = false := by simp; exact hf
          have Hf := Lib.hid hf
          clear hf
          first | (go_region_with (first
              | (go_at_call 160; (with_reducible refine (KD.out _ (hr.ext exA)).mono ?_); rintro e w4 ⟨rfl, hx4⟩; have h4 := HS.out w4 exA; go_split_ands))) | fail
          all_goals
            go_wp2_with fail
            all_goals (go_ret; refine ⟨?_, exA⟩; have hs := Hs.out; have hp := Hp.out; (first | (have hf := Hf.out) | skip); (first | (have h0 := g0.out) | skip); rw [Hv.out]; clear K1 K3 KD HS; (first | (simp only [beq_iff_eq, beq_eq_false_iff_ne, ne_eq] at *) | skip); first | rfl | (simp [*, beq_dec, who_empty]; done) | (simp [*, beq_dec, who_empty]; omega))
      · have t1 : (prior != 0) = true := by simp; omega
        have Hp := Lib.hid h1
        clear h1
        go_enter Tryz.func117, Tryz.ntmps117
        go_wp2_with fail
        first | (go_region_held3 (fun w' : World => Ext (w.alloc (.cells #[.int .i64 order, .int .i64 status, .int .i64 prior, .int .i64 cur, .int .i64 tax, .slice A n c, .int .i64 paid, .int .i64 refunded, .int .i64 events, .int .i64 refused, .int .i64 stamp, .string who] 77)) w' ∧ w'.cell? ⟨w.heap.size, 0, none⟩ = some (.int .i64 order) ∧ w'.cell? ⟨w.heap.size, 1, none⟩ = some (.int .i64 status) ∧ w'.cell? ⟨w.heap.size, 2, none⟩ = some (.int .i64 prior) ∧ w'.cell? ⟨w.heap.size, 3, none⟩ = some (.int .i64 cur) ∧ w'.cell? ⟨w.heap.size, 4, none⟩ = some (.int .i64 tax) ∧ w'.cell? ⟨w.heap.size, 5, none⟩ = some (.slice A n c) ∧ w'.cell? ⟨w.heap.size, 6, none⟩ = some (.int .i64 paid) ∧ w'.cell? ⟨w.heap.size, 7, none⟩ = some (.int .i64 refunded) ∧ w'.cell? ⟨w.heap.size, 8, none⟩ = some (.int .i64 events) ∧ w'.cell? ⟨w.heap.size, 9, none⟩ = some (.int .i64 refused) ∧ w'.cell? ⟨w.heap.size, 10, none⟩ = some (.int .i64 stamp) ∧ w'.cell? ⟨w.heap.size, 11, none⟩ = some (.string who))
          (exact HS.out _ exA)
          (first
            | (go_at_call 159; (with_reducible refine (K1.out _ (hr.ext exA)).mono ?_); rintro e w1 ⟨rfl, hx1⟩)
            | (go_at_call 160; (with_reducible refine (KD.out _ (hr.ext exA)).mono ?_); rintro e w2 ⟨rfl, hx2⟩))) | fail
        go_split_ands
        go_wp2_with (go_at_call 161; (with_reducible refine (K3.out _ (hr.ext exA)).mono ?_); rintro e w3 ⟨rfl, hx3⟩; have h3 := HS.out w3 exA; go_split_ands)
        all_goals try (go_ret; refine ⟨?_, exA⟩; have hs := Hs.out; have hp := Hp.out; (first | (have hf := Hf.out) | skip); (first | (have h0 := g0.out) | skip); rw [Hv.out]; clear K1 K3 KD HS; (first | (simp only [beq_iff_eq, beq_eq_false_iff_ne, ne_eq] at *) | skip); first | rfl | (simp [*, beq_dec, who_empty]; done) | (simp [*, beq_dec, who_empty]; omega))
end Go.Proofs.YtjajbbgebblalaaGreatDoor
