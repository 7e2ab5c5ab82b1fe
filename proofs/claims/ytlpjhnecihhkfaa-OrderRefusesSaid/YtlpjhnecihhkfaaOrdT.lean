/-
  The walks of the versions' Event, Lift, typed and Check at version 5; order.named.
-/
import Derived.Test.YtlpjhnecihhkfaaOrdS
namespace Go.Proofs.Ytlpjhnecihhkfaa
open Go.RowKit
set_option linter.unusedVariables false
set_option linter.unusedSimpArgs false
theorem ev_one (e : Ev) : ∀ v ∈ (evcells e).toList, v.oneCell' = true := by
  intro v hv; simp [evcells] at hv; rcases hv with rfl | rfl | rfl | rfl | rfl | rfl | rfl | rfl | rfl | rfl <;> rfl
theorem ev_one' (a b c d f g h : Int) (s : ByteArray) (i : Int) (t : ByteArray) : ∀ v ∈ (#[.int .i64 a, .int .i64 b, .int .i64 c, .int .i64 d, .int .i64 f, .int .i64 g, .int .i64 h, .string s, .int .i64 i, .string t] : Array Value).toList, v.oneCell' = true := ev_one ⟨a, b, c, d, f, g, h, s, i, t⟩
theorem ev_size' (a b c d f g h : Int) (s : ByteArray) (i : Int) (t : ByteArray) : (#[.int .i64 a, .int .i64 b, .int .i64 c, .int .i64 d, .int .i64 f, .int .i64 g, .int .i64 h, .string s, .int .i64 i, .string t] : Array Value).size = 10 := rfl
set_option maxRecDepth 100000 in
set_option maxHeartbeats 2000000 in
theorem event1_any (e : Ev) (w : World) :
    Calls Try.prog 103 #[.agg (v1cells e)] w fun e' w' => e' = .returned (.agg (evcells ⟨e.kind, e.order, e.item, e.qty, e.price, 0, 0, ⟨#[]⟩, 0, ⟨#[]⟩⟩)) ∧ Ext w w' := by
  obtain ⟨kind, order, item, qty, price, cur, tax, who, stamp, note⟩ := e
  unfold v1cells evcells
  dsimp only
  go_enter Try.func103, Try.ntmps103
  go_wp2_with fail
  go_returns
  exact ⟨rfl, (by repeat (first | with_reducible exact Below.refl _ _ | with_reducible assumption | with_reducible refine ExtD ?_ | with_reducible refine ExtDN ?_ | with_reducible refine ExtA ?_ | (with_reducible refine ExtR ?_ ?_; (first | omega | (dsimp only; omega) | (simp; done) | (simp; omega))) | (with_reducible refine ExtS ?_ ?_; (first | omega | (dsimp only; omega) | (simp; done) | (simp; omega))) | with_reducible refine Ext.tr ?_ (by with_reducible assumption)))⟩
set_option maxRecDepth 100000 in
set_option maxHeartbeats 2000000 in
theorem event2_any (e : Ev) (w : World) :
    Calls Try.prog 110 #[.agg (v2cells e)] w fun e' w' => e' = .returned (.agg (evcells ⟨e.kind, e.order, e.item, e.qty, e.price, e.cur, 0, ⟨#[]⟩, 0, ⟨#[]⟩⟩)) ∧ Ext w w' := by
  have K1 := Lib.hid fun W => event1_any e W
  obtain ⟨kind, order, item, qty, price, cur, tax, who, stamp, note⟩ := e
  unfold v1cells evcells at K1
  unfold v2cells evcells
  dsimp only at *
  go_enter Try.func110, Try.ntmps110
  go_wp2_with (first
    | (go_at_call 103; go_must (with_reducible refine (K1.out _).mono ?_); rintro e w1 ⟨rfl, hx1⟩; have b1 : Blk w1 w.heap.size 94 #[.int .i64 kind, .int .i64 order, .int .i64 item, .int .i64 qty, .int .i64 price, .int .i64 cur] := Ext.blk hx1 (BlkA (BlkN rfl)); have b2 : Blk w1 (w.heap.size + 1) 28 #[.int .i64 0, .int .i64 0, .int .i64 0, .int .i64 0, .int .i64 0, .int .i64 0, .int .i64 0, .string ⟨#[]⟩, .int .i64 0, .string ⟨#[]⟩] := Ext.blk hx1 (BlkN (by simp)); have d5 : ∀ ob, (w1.alloc ob).cell? ⟨w.heap.size, 5, none⟩ = some (.int .i64 cur) := fun ob => (BlkA b1).cell 5)
    | ((with_reducible refine wpL_store_row rfl 28 (.tmp 2) (.tmp 10) rfl _ 28 _ _ rfl rfl (BlkA b2) ((ev_size' _ _ _ _ _ _ _ _ _ _).trans (ev_size' _ _ _ _ _ _ _ _ _ _).symm) (ev_one' _ _ _ _ _ _ _ _ _ _) 10 ev_wide (ev_size' _ _ _ _ _ _ _ _ _ _) ?_)))
  refine bodyPost_ret (res_row rfl _ _ _ 28 _ 10 rfl ((BlkA b2).setRow_) ev_wide rfl) rfl ?_
  exact ⟨rfl, (by repeat (first | with_reducible exact Below.refl _ _ | with_reducible assumption | with_reducible refine ExtD ?_ | with_reducible refine ExtDN ?_ | with_reducible refine ExtA ?_ | (with_reducible refine ExtR ?_ ?_; (first | omega | (dsimp only; omega) | (simp; done) | (simp; omega))) | (with_reducible refine ExtS ?_ ?_; (first | omega | (dsimp only; omega) | (simp; done) | (simp; omega))) | with_reducible refine Ext.tr ?_ (by with_reducible assumption)))⟩
set_option maxRecDepth 100000 in
set_option maxHeartbeats 2000000 in
theorem event3_any (e : Ev) (w : World) :
    Calls Try.prog 113 #[.agg (v3cells e)] w fun e' w' => e' = .returned (.agg (evcells ⟨e.kind, e.order, e.item, e.qty, e.price, e.cur, e.tax, ⟨#[]⟩, 0, ⟨#[]⟩⟩)) ∧ Ext w w' := by
  have K1 := Lib.hid fun W => event2_any e W
  obtain ⟨kind, order, item, qty, price, cur, tax, who, stamp, note⟩ := e
  unfold v2cells evcells at K1
  unfold v3cells evcells
  dsimp only at *
  go_enter Try.func113, Try.ntmps113
  go_wp2_with (first
    | (go_at_call 110; go_must (with_reducible refine (K1.out _).mono ?_); rintro e w1 ⟨rfl, hx1⟩; have b1 : Blk w1 w.heap.size 96 #[.int .i64 kind, .int .i64 order, .int .i64 item, .int .i64 qty, .int .i64 price, .int .i64 cur, .int .i64 tax] := Ext.blk hx1 (BlkA (BlkN rfl)); have b2 : Blk w1 (w.heap.size + 1) 28 #[.int .i64 0, .int .i64 0, .int .i64 0, .int .i64 0, .int .i64 0, .int .i64 0, .int .i64 0, .string ⟨#[]⟩, .int .i64 0, .string ⟨#[]⟩] := Ext.blk hx1 (BlkN (by simp)); have d6 : ∀ ob, (w1.alloc ob).cell? ⟨w.heap.size, 6, none⟩ = some (.int .i64 tax) := fun ob => (BlkA b1).cell 6)
    | ((with_reducible refine wpL_store_row rfl 28 (.tmp 2) (.tmp 10) rfl _ 28 _ _ rfl rfl (BlkA b2) ((ev_size' _ _ _ _ _ _ _ _ _ _).trans (ev_size' _ _ _ _ _ _ _ _ _ _).symm) (ev_one' _ _ _ _ _ _ _ _ _ _) 10 ev_wide (ev_size' _ _ _ _ _ _ _ _ _ _) ?_)))
  refine bodyPost_ret (res_row rfl _ _ _ 28 _ 10 rfl ((BlkA b2).setRow_) ev_wide rfl) rfl ?_
  exact ⟨rfl, (by repeat (first | with_reducible exact Below.refl _ _ | with_reducible assumption | with_reducible refine ExtD ?_ | with_reducible refine ExtDN ?_ | with_reducible refine ExtA ?_ | (with_reducible refine ExtR ?_ ?_; (first | omega | (dsimp only; omega) | (simp; done) | (simp; omega))) | (with_reducible refine ExtS ?_ ?_; (first | omega | (dsimp only; omega) | (simp; done) | (simp; omega))) | with_reducible refine Ext.tr ?_ (by with_reducible assumption)))⟩
set_option maxRecDepth 100000 in
set_option maxHeartbeats 2000000 in
theorem event4_any (e : Ev) (w : World) :
    Calls Try.prog 117 #[.agg (v4cells e)] w fun e' w' => e' = .returned (.agg (evcells ⟨e.kind, e.order, e.item, e.qty, e.price, e.cur, e.tax, e.who, 0, ⟨#[]⟩⟩)) ∧ Ext w w' := by
  have K1 := Lib.hid fun W => event3_any e W
  obtain ⟨kind, order, item, qty, price, cur, tax, who, stamp, note⟩ := e
  unfold v3cells evcells at K1
  unfold v4cells evcells
  dsimp only at *
  go_enter Try.func117, Try.ntmps117
  go_wp2_with (first
    | (go_at_call 113; go_must (with_reducible refine (K1.out _).mono ?_); rintro e w1 ⟨rfl, hx1⟩; have b1 : Blk w1 w.heap.size 98 #[.int .i64 kind, .int .i64 order, .int .i64 item, .int .i64 qty, .int .i64 price, .int .i64 cur, .int .i64 tax, .string who] := Ext.blk hx1 (BlkA (BlkN rfl)); have b2 : Blk w1 (w.heap.size + 1) 28 #[.int .i64 0, .int .i64 0, .int .i64 0, .int .i64 0, .int .i64 0, .int .i64 0, .int .i64 0, .string ⟨#[]⟩, .int .i64 0, .string ⟨#[]⟩] := Ext.blk hx1 (BlkN (by simp)); have d7 : ∀ ob, (w1.alloc ob).cell? ⟨w.heap.size, 7, none⟩ = some (.string who) := fun ob => (BlkA b1).cell 7)
    | ((with_reducible refine wpL_store_row rfl 28 (.tmp 2) (.tmp 10) rfl _ 28 _ _ rfl rfl (BlkA b2) ((ev_size' _ _ _ _ _ _ _ _ _ _).trans (ev_size' _ _ _ _ _ _ _ _ _ _).symm) (ev_one' _ _ _ _ _ _ _ _ _ _) 10 ev_wide (ev_size' _ _ _ _ _ _ _ _ _ _) ?_)))
  refine bodyPost_ret (res_row rfl _ _ _ 28 _ 10 rfl ((BlkA b2).setRow_) ev_wide rfl) rfl ?_
  exact ⟨rfl, (by repeat (first | with_reducible exact Below.refl _ _ | with_reducible assumption | with_reducible refine ExtD ?_ | with_reducible refine ExtDN ?_ | with_reducible refine ExtA ?_ | (with_reducible refine ExtR ?_ ?_; (first | omega | (dsimp only; omega) | (simp; done) | (simp; omega))) | (with_reducible refine ExtS ?_ ?_; (first | omega | (dsimp only; omega) | (simp; done) | (simp; omega))) | with_reducible refine Ext.tr ?_ (by with_reducible assumption)))⟩
set_option maxRecDepth 100000 in
set_option maxHeartbeats 2000000 in
theorem event5_any (e : Ev) (w : World) :
    Calls Try.prog 122 #[.agg (evcells e)] w fun e' w' => e' = .returned (.agg (evcells ⟨e.kind, e.order, e.item, e.qty, e.price, e.cur, e.tax, e.who, e.stamp, e.note⟩)) ∧ Ext w w' := by
  have K1 := Lib.hid fun W => event4_any e W
  obtain ⟨kind, order, item, qty, price, cur, tax, who, stamp, note⟩ := e
  unfold v4cells evcells at K1
  unfold evcells
  dsimp only at *
  go_enter Try.func122, Try.ntmps122
  go_wp2_with (first
    | (go_at_call 117; go_must (with_reducible refine (K1.out _).mono ?_); rintro e w1 ⟨rfl, hx1⟩; have b1 : Blk w1 w.heap.size 100 #[.int .i64 kind, .int .i64 order, .int .i64 item, .int .i64 qty, .int .i64 price, .int .i64 cur, .int .i64 tax, .string who, .int .i64 stamp, .string note] := Ext.blk hx1 (BlkA (BlkN rfl)); have b2 : Blk w1 (w.heap.size + 1) 28 #[.int .i64 0, .int .i64 0, .int .i64 0, .int .i64 0, .int .i64 0, .int .i64 0, .int .i64 0, .string ⟨#[]⟩, .int .i64 0, .string ⟨#[]⟩] := Ext.blk hx1 (BlkN (by simp)); have d8 : ∀ ob, (w1.alloc ob).cell? ⟨w.heap.size, 8, none⟩ = some (.int .i64 stamp) := fun ob => (BlkA b1).cell 8; have d9 : ∀ ob, (w1.alloc ob).cell? ⟨w.heap.size, 9, none⟩ = some (.string note) := fun ob => (BlkA b1).cell 9)
    | ((with_reducible refine wpL_store_row rfl 28 (.tmp 2) (.tmp 13) rfl _ 28 _ _ rfl rfl (BlkA b2) ((ev_size' _ _ _ _ _ _ _ _ _ _).trans (ev_size' _ _ _ _ _ _ _ _ _ _).symm) (ev_one' _ _ _ _ _ _ _ _ _ _) 10 ev_wide (ev_size' _ _ _ _ _ _ _ _ _ _) ?_)))
  refine bodyPost_ret (res_row rfl _ _ _ 28 _ 10 rfl ((BlkA b2).setRow_) ev_wide rfl) rfl ?_
  exact ⟨rfl, (by repeat (first | with_reducible exact Below.refl _ _ | with_reducible assumption | with_reducible refine ExtD ?_ | with_reducible refine ExtDN ?_ | with_reducible refine ExtA ?_ | (with_reducible refine ExtR ?_ ?_; (first | omega | (dsimp only; omega) | (simp; done) | (simp; omega))) | (with_reducible refine ExtS ?_ ?_; (first | omega | (dsimp only; omega) | (simp; done) | (simp; omega))) | with_reducible refine Ext.tr ?_ (by with_reducible assumption)))⟩
theorem lift_any (e : Ev) (w : World) :
    Calls Try.prog 70 #[.agg (evcells e)] w fun e' w' => e' = .returned (.agg (evcells e)) ∧ Ext w w' := by
  obtain ⟨kind, order, item, qty, price, cur, tax, who, stamp, note⟩ := e
  unfold evcells
  dsimp only
  go_enter Try.func70, Try.ntmps70
  go_wp2_with fail
  go_returns
  exact ⟨rfl, (by repeat (first | with_reducible exact Below.refl _ _ | with_reducible assumption | with_reducible refine ExtD ?_ | with_reducible refine ExtDN ?_ | with_reducible refine ExtA ?_ | (with_reducible refine ExtR ?_ ?_; (first | omega | (dsimp only; omega) | (simp; done) | (simp; omega))) | (with_reducible refine ExtS ?_ ?_; (first | omega | (dsimp only; omega) | (simp; done) | (simp; omega))) | with_reducible refine Ext.tr ?_ (by with_reducible assumption)))⟩
theorem last5_any (e : Ev) (w : World) :
    Calls Try.prog 124 #[.agg (evcells e)] w fun e' w' => e' = .returned (.int .i64 10) ∧ Ext w w' := by
  obtain ⟨kind, order, item, qty, price, cur, tax, who, stamp, note⟩ := e
  unfold evcells
  dsimp only
  go_enter Try.func124, Try.ntmps124
  go_wp2_with fail
  go_ret
  exact ⟨rfl, (by repeat (first | with_reducible exact Below.refl _ _ | with_reducible assumption | with_reducible refine ExtD ?_ | with_reducible refine ExtDN ?_ | with_reducible refine ExtA ?_ | (with_reducible refine ExtR ?_ ?_; (first | omega | (dsimp only; omega) | (simp; done) | (simp; omega))) | (with_reducible refine ExtS ?_ ?_; (first | omega | (dsimp only; omega) | (simp; done) | (simp; omega))) | with_reducible refine Ext.tr ?_ (by with_reducible assumption)))⟩
end Go.Proofs.Ytlpjhnecihhkfaa
