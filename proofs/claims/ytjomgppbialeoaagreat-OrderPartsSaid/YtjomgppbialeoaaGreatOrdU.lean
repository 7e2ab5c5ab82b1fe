/-
  The walks of schema.typed and Check at version 5; order.named.
-/
import Derived.Test.YtjomgppbialeoaaGreatOrdS
namespace Go.Proofs.YtjomgppbialeoaaGreat
open Go.RowKit
set_option linter.unusedVariables false
set_option linter.unusedSimpArgs false
set_option maxRecDepth 100000 in
set_option maxHeartbeats 2000000 in
theorem typed_any (e : Ev) (w : World) :
    Calls Tryz.prog 70 #[.int .i64 5, .agg (evcells e)] w fun e' w' => e' = .returned (.iface 118 (.agg (evcells e))) ∧ Ext w w' := by
  have K1 := Lib.hid fun W => lift_any e W
  obtain ⟨kind, order, item, qty, price, cur, tax, who, stamp, note⟩ := e
  unfold evcells at *
  dsimp only at *
  go_enter Tryz.func70, Tryz.ntmps70
  go_wp2_with (go_at_call 76; go_must (with_reducible refine (K1.out _).mono ?_); rintro e w1 ⟨rfl, hx1⟩)
  go_ret
  exact ⟨rfl, (by repeat (first | with_reducible exact Below.refl _ _ | with_reducible assumption | with_reducible refine ExtD ?_ | with_reducible refine ExtDN ?_ | with_reducible refine ExtA ?_ | (with_reducible refine ExtR ?_ ?_; (first | omega | (dsimp only; omega) | (simp; done) | (simp; omega))) | (with_reducible refine ExtS ?_ ?_; (first | omega | (dsimp only; omega) | (simp; done) | (simp; omega))) | with_reducible refine Ext.tr ?_ (by with_reducible assumption)))⟩
set_option maxRecDepth 100000 in
set_option maxHeartbeats 2000000 in
theorem check5_any (e : Ev) (w : World) (hn : e.who.size ≤ 4611686018427387904) (hn2 : e.note.size ≤ 4611686018427387904) :
    Calls Tryz.prog 43 #[.int .i64 5, .agg (evcells e)] w fun e' w' => e' = .returned (.int .i64 (check5 e)) ∧ Ext w w' := by
  have K1 := Lib.hid fun W => typed_any e W
  have K2 := Lib.hid fun W => last5_any e W
  have K3 := Lib.hid fun W => fits5_any e W hn
  have K4 := Lib.hid fun W => event5_any e W
  have Hv : Hid (check5 e = if e.kind < 1 ∨ 10 < e.kind then 31 else if 16 < e.who.size ∨ 120 < e.note.size then 24 else if fitsB e then 0 else 32) := Lib.hid rfl
  generalize fitsB e = F at *
  generalize check5 e = C at *
  obtain ⟨kind, order, item, qty, price, cur, tax, who, stamp, note⟩ := e
  unfold evcells at *
  dsimp only at *
  by_cases h1 : kind < 1
  · go_enter Tryz.func43, Tryz.ntmps43
    go_wp2_with (first
      | (go_at_call 70; (with_reducible refine (K1.out _).mono ?_); rintro e w1 ⟨rfl, hx1⟩; have b1 : Blk w1 w.heap.size 38 #[.int .i64 kind, .int .i64 order, .int .i64 item, .int .i64 qty, .int .i64 price, .int .i64 cur, .int .i64 tax, .string who, .int .i64 stamp, .string note] := Ext.blk hx1 (BlkN rfl); have d0 : w1.cell? ⟨w.heap.size, 0, none⟩ = some (.int .i64 kind) := b1.cell 0))
    go_quiet (fail)
    go_wp2_with fail
    go_ret
    exact ⟨by rw [Hv.out, if_pos (.inl (by omega))]; rfl, (by repeat (first | with_reducible exact Below.refl _ _ | with_reducible assumption | with_reducible refine ExtD ?_ | with_reducible refine ExtDN ?_ | with_reducible refine ExtA ?_ | (with_reducible refine ExtR ?_ ?_; (first | omega | (dsimp only; omega) | (simp; done) | (simp; omega))) | (with_reducible refine ExtS ?_ ?_; (first | omega | (dsimp only; omega) | (simp; done) | (simp; omega))) | with_reducible refine Ext.tr ?_ (by with_reducible assumption)))⟩
  have t1 : decide (kind < 1) = false := by simp; omega
  by_cases h2 : 10 < kind
  ·
    go_enter Tryz.func43, Tryz.ntmps43
    go_wp2_with (first
      | (go_at_call 70; (with_reducible refine (K1.out _).mono ?_); rintro e w1 ⟨rfl, hx1⟩; have b1 : Blk w1 w.heap.size 38 #[.int .i64 kind, .int .i64 order, .int .i64 item, .int .i64 qty, .int .i64 price, .int .i64 cur, .int .i64 tax, .string who, .int .i64 stamp, .string note] := Ext.blk hx1 (BlkN rfl); have d0 : w1.cell? ⟨w.heap.size, 0, none⟩ = some (.int .i64 kind) := b1.cell 0))
    go_region_with (first
      | (go_at_call 119; (with_reducible refine (K2.out _).mono ?_); rintro e w2 ⟨rfl, hx2⟩; have hy2 : Ext w1 w2 := (by repeat (first | with_reducible exact Below.refl _ _ | with_reducible assumption | with_reducible refine ExtD ?_ | with_reducible refine ExtDN ?_ | with_reducible refine ExtA ?_ | (with_reducible refine ExtR ?_ ?_; (first | omega | (dsimp only; omega) | (simp; done) | (simp; omega))) | (with_reducible refine ExtS ?_ ?_; (first | omega | (dsimp only; omega) | (simp; done) | (simp; omega))) | with_reducible refine Ext.tr ?_ (by with_reducible assumption))); have d0 : w2.cell? ⟨w.heap.size, 0, none⟩ = some (.int .i64 kind) := (Ext.blk hy2 b1).cell 0; have d7 : w2.cell? ⟨w.heap.size, 7, none⟩ = some (.string who) := (Ext.blk hy2 b1).cell 7; have d9 : w2.cell? ⟨w.heap.size, 9, none⟩ = some (.string note) := (Ext.blk hy2 b1).cell 9))
    all_goals
      go_wp2_with fail
      go_ret
      exact ⟨by rw [Hv.out, if_pos (.inr (by omega))]; rfl, (by repeat (first | with_reducible exact Below.refl _ _ | with_reducible assumption | with_reducible refine ExtD ?_ | with_reducible refine ExtDN ?_ | with_reducible refine ExtA ?_ | (with_reducible refine ExtR ?_ ?_; (first | omega | (dsimp only; omega) | (simp; done) | (simp; omega))) | (with_reducible refine ExtS ?_ ?_; (first | omega | (dsimp only; omega) | (simp; done) | (simp; omega))) | with_reducible refine Ext.tr ?_ (by with_reducible assumption)))⟩
  have t2 : decide (10 < kind) = false := by simp; omega
  have Hv2 : Hid (C = if 16 < who.size ∨ 120 < note.size then 24 else if F then 0 else 32) := Lib.hid (by rw [Hv.out, if_neg (by omega)])
  clear Hv
  by_cases h3 : 16 < who.size
  · have Hv3 : Hid (C = 24) := Lib.hid (by rw [Hv2.out, if_pos (.inl h3)])
    go_enter Tryz.func43, Tryz.ntmps43
    go_wp2_with (first
      | (go_at_call 70; (with_reducible refine (K1.out _).mono ?_); rintro e w1 ⟨rfl, hx1⟩; have b1 : Blk w1 w.heap.size 38 #[.int .i64 kind, .int .i64 order, .int .i64 item, .int .i64 qty, .int .i64 price, .int .i64 cur, .int .i64 tax, .string who, .int .i64 stamp, .string note] := Ext.blk hx1 (BlkN rfl); have d0 : w1.cell? ⟨w.heap.size, 0, none⟩ = some (.int .i64 kind) := b1.cell 0))
    go_region_with (first
      | (go_at_call 119; (with_reducible refine (K2.out _).mono ?_); rintro e w2 ⟨rfl, hx2⟩; have hy2 : Ext w1 w2 := (by repeat (first | with_reducible exact Below.refl _ _ | with_reducible assumption | with_reducible refine ExtD ?_ | with_reducible refine ExtDN ?_ | with_reducible refine ExtA ?_ | (with_reducible refine ExtR ?_ ?_; (first | omega | (dsimp only; omega) | (simp; done) | (simp; omega))) | (with_reducible refine ExtS ?_ ?_; (first | omega | (dsimp only; omega) | (simp; done) | (simp; omega))) | with_reducible refine Ext.tr ?_ (by with_reducible assumption))); have d0 : w2.cell? ⟨w.heap.size, 0, none⟩ = some (.int .i64 kind) := (Ext.blk hy2 b1).cell 0; have d7 : w2.cell? ⟨w.heap.size, 7, none⟩ = some (.string who) := (Ext.blk hy2 b1).cell 7; have d9 : w2.cell? ⟨w.heap.size, 9, none⟩ = some (.string note) := (Ext.blk hy2 b1).cell 9))
    all_goals
      go_wp2_with fail
      go_ret
      exact ⟨by rw [Hv3.out]; rfl, (by repeat (first | with_reducible exact Below.refl _ _ | with_reducible assumption | with_reducible refine ExtD ?_ | with_reducible refine ExtDN ?_ | with_reducible refine ExtA ?_ | (with_reducible refine ExtR ?_ ?_; (first | omega | (dsimp only; omega) | (simp; done) | (simp; omega))) | (with_reducible refine ExtS ?_ ?_; (first | omega | (dsimp only; omega) | (simp; done) | (simp; omega))) | with_reducible refine Ext.tr ?_ (by with_reducible assumption)))⟩
  by_cases h4 : 120 < note.size
  · have Hv3 : Hid (C = 24) := Lib.hid (by rw [Hv2.out, if_pos (.inr h4)])
    go_enter Tryz.func43, Tryz.ntmps43
    go_wp2_with (first
      | (go_at_call 70; (with_reducible refine (K1.out _).mono ?_); rintro e w1 ⟨rfl, hx1⟩; have b1 : Blk w1 w.heap.size 38 #[.int .i64 kind, .int .i64 order, .int .i64 item, .int .i64 qty, .int .i64 price, .int .i64 cur, .int .i64 tax, .string who, .int .i64 stamp, .string note] := Ext.blk hx1 (BlkN rfl); have d0 : w1.cell? ⟨w.heap.size, 0, none⟩ = some (.int .i64 kind) := b1.cell 0))
    go_region_with (first
      | (go_at_call 119; (with_reducible refine (K2.out _).mono ?_); rintro e w2 ⟨rfl, hx2⟩; have hy2 : Ext w1 w2 := (by repeat (first | with_reducible exact Below.refl _ _ | with_reducible assumption | with_reducible refine ExtD ?_ | with_reducible refine ExtDN ?_ | with_reducible refine ExtA ?_ | (with_reducible refine ExtR ?_ ?_; (first | omega | (dsimp only; omega) | (simp; done) | (simp; omega))) | (with_reducible refine ExtS ?_ ?_; (first | omega | (dsimp only; omega) | (simp; done) | (simp; omega))) | with_reducible refine Ext.tr ?_ (by with_reducible assumption))); have d0 : w2.cell? ⟨w.heap.size, 0, none⟩ = some (.int .i64 kind) := (Ext.blk hy2 b1).cell 0; have d7 : w2.cell? ⟨w.heap.size, 7, none⟩ = some (.string who) := (Ext.blk hy2 b1).cell 7; have d9 : w2.cell? ⟨w.heap.size, 9, none⟩ = some (.string note) := (Ext.blk hy2 b1).cell 9))
    all_goals
      go_wp2_with fail
      go_ret
      exact ⟨by rw [Hv3.out]; rfl, (by repeat (first | with_reducible exact Below.refl _ _ | with_reducible assumption | with_reducible refine ExtD ?_ | with_reducible refine ExtDN ?_ | with_reducible refine ExtA ?_ | (with_reducible refine ExtR ?_ ?_; (first | omega | (dsimp only; omega) | (simp; done) | (simp; omega))) | (with_reducible refine ExtS ?_ ?_; (first | omega | (dsimp only; omega) | (simp; done) | (simp; omega))) | with_reducible refine Ext.tr ?_ (by with_reducible assumption)))⟩
  have Hv3 : Hid (C = if F then 0 else 32) := Lib.hid (by rw [Hv2.out, if_neg (by omega)])
  cases F with
  | false =>
    go_enter Tryz.func43, Tryz.ntmps43
    go_wp2_with (first
      | (go_at_call 70; (with_reducible refine (K1.out _).mono ?_); rintro e w1 ⟨rfl, hx1⟩; have b1 : Blk w1 w.heap.size 38 #[.int .i64 kind, .int .i64 order, .int .i64 item, .int .i64 qty, .int .i64 price, .int .i64 cur, .int .i64 tax, .string who, .int .i64 stamp, .string note] := Ext.blk hx1 (BlkN rfl); have d0 : w1.cell? ⟨w.heap.size, 0, none⟩ = some (.int .i64 kind) := b1.cell 0))
    go_region_with (first
      | (go_at_call 119; (with_reducible refine (K2.out _).mono ?_); rintro e w2 ⟨rfl, hx2⟩; have hy2 : Ext w1 w2 := (by repeat (first | with_reducible exact Below.refl _ _ | with_reducible assumption | with_reducible refine ExtD ?_ | with_reducible refine ExtDN ?_ | with_reducible refine ExtA ?_ | (with_reducible refine ExtR ?_ ?_; (first | omega | (dsimp only; omega) | (simp; done) | (simp; omega))) | (with_reducible refine ExtS ?_ ?_; (first | omega | (dsimp only; omega) | (simp; done) | (simp; omega))) | with_reducible refine Ext.tr ?_ (by with_reducible assumption))); have d0 : w2.cell? ⟨w.heap.size, 0, none⟩ = some (.int .i64 kind) := (Ext.blk hy2 b1).cell 0; have d7 : w2.cell? ⟨w.heap.size, 7, none⟩ = some (.string who) := (Ext.blk hy2 b1).cell 7; have b3 : Blk w2 w.heap.size 38 #[.int .i64 kind, .int .i64 order, .int .i64 item, .int .i64 qty, .int .i64 price, .int .i64 cur, .int .i64 tax, .string who, .int .i64 stamp, .string note] := Ext.blk hy2 b1; (have d0 : World.cell? w2 ⟨w.heap.size, 0, none⟩ = some (.int .i64 kind) := Blk.cell b3 0; have d1 : World.cell? w2 ⟨w.heap.size, 1, none⟩ = some (.int .i64 order) := Blk.cell b3 1; have d2 : World.cell? w2 ⟨w.heap.size, 2, none⟩ = some (.int .i64 item) := Blk.cell b3 2; have d3 : World.cell? w2 ⟨w.heap.size, 3, none⟩ = some (.int .i64 qty) := Blk.cell b3 3; have d4 : World.cell? w2 ⟨w.heap.size, 4, none⟩ = some (.int .i64 price) := Blk.cell b3 4; have d5 : World.cell? w2 ⟨w.heap.size, 5, none⟩ = some (.int .i64 cur) := Blk.cell b3 5; have d6 : World.cell? w2 ⟨w.heap.size, 6, none⟩ = some (.int .i64 tax) := Blk.cell b3 6; have d7 : World.cell? w2 ⟨w.heap.size, 7, none⟩ = some (.string who) := Blk.cell b3 7; have d8 : World.cell? w2 ⟨w.heap.size, 8, none⟩ = some (.int .i64 stamp) := Blk.cell b3 8; have d9 : World.cell? w2 ⟨w.heap.size, 9, none⟩ = some (.string note) := Blk.cell b3 9)))
    all_goals
      go_wp2_with fail
      first | (go_region_with (first
        | (go_at_call 118; (with_reducible refine (K3.out _).mono ?_); rintro e w3 ⟨rfl, hx3⟩; have hy3 : Ext w2 w3 := (by repeat (first | with_reducible exact Below.refl _ _ | with_reducible assumption | with_reducible refine ExtD ?_ | with_reducible refine ExtDN ?_ | with_reducible refine ExtA ?_ | (with_reducible refine ExtR ?_ ?_; (first | omega | (dsimp only; omega) | (simp; done) | (simp; omega))) | (with_reducible refine ExtS ?_ ?_; (first | omega | (dsimp only; omega) | (simp; done) | (simp; omega))) | with_reducible refine Ext.tr ?_ (by with_reducible assumption))); have b4 := Ext.blk hy3 b3; (have d0 : World.cell? w3 ⟨w.heap.size, 0, none⟩ = some (.int .i64 kind) := Blk.cell b4 0; have d1 : World.cell? w3 ⟨w.heap.size, 1, none⟩ = some (.int .i64 order) := Blk.cell b4 1; have d2 : World.cell? w3 ⟨w.heap.size, 2, none⟩ = some (.int .i64 item) := Blk.cell b4 2; have d3 : World.cell? w3 ⟨w.heap.size, 3, none⟩ = some (.int .i64 qty) := Blk.cell b4 3; have d4 : World.cell? w3 ⟨w.heap.size, 4, none⟩ = some (.int .i64 price) := Blk.cell b4 4; have d5 : World.cell? w3 ⟨w.heap.size, 5, none⟩ = some (.int .i64 cur) := Blk.cell b4 5; have d6 : World.cell? w3 ⟨w.heap.size, 6, none⟩ = some (.int .i64 tax) := Blk.cell b4 6; have d7 : World.cell? w3 ⟨w.heap.size, 7, none⟩ = some (.string who) := Blk.cell b4 7; have d8 : World.cell? w3 ⟨w.heap.size, 8, none⟩ = some (.int .i64 stamp) := Blk.cell b4 8; have d9 : World.cell? w3 ⟨w.heap.size, 9, none⟩ = some (.string note) := Blk.cell b4 9))
        | (go_at_call 117; (with_reducible refine (K4.out _).mono ?_); rintro e w4 ⟨rfl, hx4⟩; have hy4 : Ext w3 w4 := (by repeat (first | with_reducible exact Below.refl _ _ | with_reducible assumption | with_reducible refine ExtD ?_ | with_reducible refine ExtDN ?_ | with_reducible refine ExtA ?_ | (with_reducible refine ExtR ?_ ?_; (first | omega | (dsimp only; omega) | (simp; done) | (simp; omega))) | (with_reducible refine ExtS ?_ ?_; (first | omega | (dsimp only; omega) | (simp; done) | (simp; omega))) | with_reducible refine Ext.tr ?_ (by with_reducible assumption))); have b5 := Ext.blk hy4 b4; (have d0 : World.cell? w4 ⟨w.heap.size, 0, none⟩ = some (.int .i64 kind) := Blk.cell b5 0; have d1 : World.cell? w4 ⟨w.heap.size, 1, none⟩ = some (.int .i64 order) := Blk.cell b5 1; have d2 : World.cell? w4 ⟨w.heap.size, 2, none⟩ = some (.int .i64 item) := Blk.cell b5 2; have d3 : World.cell? w4 ⟨w.heap.size, 3, none⟩ = some (.int .i64 qty) := Blk.cell b5 3; have d4 : World.cell? w4 ⟨w.heap.size, 4, none⟩ = some (.int .i64 price) := Blk.cell b5 4; have d5 : World.cell? w4 ⟨w.heap.size, 5, none⟩ = some (.int .i64 cur) := Blk.cell b5 5; have d6 : World.cell? w4 ⟨w.heap.size, 6, none⟩ = some (.int .i64 tax) := Blk.cell b5 6; have d7 : World.cell? w4 ⟨w.heap.size, 7, none⟩ = some (.string who) := Blk.cell b5 7; have d8 : World.cell? w4 ⟨w.heap.size, 8, none⟩ = some (.int .i64 stamp) := Blk.cell b5 8; have d9 : World.cell? w4 ⟨w.heap.size, 9, none⟩ = some (.string note) := Blk.cell b5 9)))) | fail
      all_goals
        go_wp2_with fail
        go_ret
        exact ⟨by rw [Hv3.out]; rfl, (by repeat (first | with_reducible exact Below.refl _ _ | with_reducible assumption | with_reducible refine ExtD ?_ | with_reducible refine ExtDN ?_ | with_reducible refine ExtA ?_ | (with_reducible refine ExtR ?_ ?_; (first | omega | (dsimp only; omega) | (simp; done) | (simp; omega))) | (with_reducible refine ExtS ?_ ?_; (first | omega | (dsimp only; omega) | (simp; done) | (simp; omega))) | with_reducible refine Ext.tr ?_ (by with_reducible assumption)))⟩
  | true =>
    go_enter Tryz.func43, Tryz.ntmps43
    go_wp2_with (first
      | (go_at_call 70; (with_reducible refine (K1.out _).mono ?_); rintro e w1 ⟨rfl, hx1⟩; have b1 : Blk w1 w.heap.size 38 #[.int .i64 kind, .int .i64 order, .int .i64 item, .int .i64 qty, .int .i64 price, .int .i64 cur, .int .i64 tax, .string who, .int .i64 stamp, .string note] := Ext.blk hx1 (BlkN rfl); have d0 : w1.cell? ⟨w.heap.size, 0, none⟩ = some (.int .i64 kind) := b1.cell 0))
    go_region_with (first
      | (go_at_call 119; (with_reducible refine (K2.out _).mono ?_); rintro e w2 ⟨rfl, hx2⟩; have hy2 : Ext w1 w2 := (by repeat (first | with_reducible exact Below.refl _ _ | with_reducible assumption | with_reducible refine ExtD ?_ | with_reducible refine ExtDN ?_ | with_reducible refine ExtA ?_ | (with_reducible refine ExtR ?_ ?_; (first | omega | (dsimp only; omega) | (simp; done) | (simp; omega))) | (with_reducible refine ExtS ?_ ?_; (first | omega | (dsimp only; omega) | (simp; done) | (simp; omega))) | with_reducible refine Ext.tr ?_ (by with_reducible assumption))); have d0 : w2.cell? ⟨w.heap.size, 0, none⟩ = some (.int .i64 kind) := (Ext.blk hy2 b1).cell 0; have d7 : w2.cell? ⟨w.heap.size, 7, none⟩ = some (.string who) := (Ext.blk hy2 b1).cell 7; have b3 : Blk w2 w.heap.size 38 #[.int .i64 kind, .int .i64 order, .int .i64 item, .int .i64 qty, .int .i64 price, .int .i64 cur, .int .i64 tax, .string who, .int .i64 stamp, .string note] := Ext.blk hy2 b1; (have d0 : World.cell? w2 ⟨w.heap.size, 0, none⟩ = some (.int .i64 kind) := Blk.cell b3 0; have d1 : World.cell? w2 ⟨w.heap.size, 1, none⟩ = some (.int .i64 order) := Blk.cell b3 1; have d2 : World.cell? w2 ⟨w.heap.size, 2, none⟩ = some (.int .i64 item) := Blk.cell b3 2; have d3 : World.cell? w2 ⟨w.heap.size, 3, none⟩ = some (.int .i64 qty) := Blk.cell b3 3; have d4 : World.cell? w2 ⟨w.heap.size, 4, none⟩ = some (.int .i64 price) := Blk.cell b3 4; have d5 : World.cell? w2 ⟨w.heap.size, 5, none⟩ = some (.int .i64 cur) := Blk.cell b3 5; have d6 : World.cell? w2 ⟨w.heap.size, 6, none⟩ = some (.int .i64 tax) := Blk.cell b3 6; have d7 : World.cell? w2 ⟨w.heap.size, 7, none⟩ = some (.string who) := Blk.cell b3 7; have d8 : World.cell? w2 ⟨w.heap.size, 8, none⟩ = some (.int .i64 stamp) := Blk.cell b3 8; have d9 : World.cell? w2 ⟨w.heap.size, 9, none⟩ = some (.string note) := Blk.cell b3 9)))
    all_goals
      go_wp2_with fail
      first | (go_region_with (first
        | (go_at_call 118; (with_reducible refine (K3.out _).mono ?_); rintro e w3 ⟨rfl, hx3⟩; have hy3 : Ext w2 w3 := (by repeat (first | with_reducible exact Below.refl _ _ | with_reducible assumption | with_reducible refine ExtD ?_ | with_reducible refine ExtDN ?_ | with_reducible refine ExtA ?_ | (with_reducible refine ExtR ?_ ?_; (first | omega | (dsimp only; omega) | (simp; done) | (simp; omega))) | (with_reducible refine ExtS ?_ ?_; (first | omega | (dsimp only; omega) | (simp; done) | (simp; omega))) | with_reducible refine Ext.tr ?_ (by with_reducible assumption))); have b4 := Ext.blk hy3 b3; (have d0 : World.cell? w3 ⟨w.heap.size, 0, none⟩ = some (.int .i64 kind) := Blk.cell b4 0; have d1 : World.cell? w3 ⟨w.heap.size, 1, none⟩ = some (.int .i64 order) := Blk.cell b4 1; have d2 : World.cell? w3 ⟨w.heap.size, 2, none⟩ = some (.int .i64 item) := Blk.cell b4 2; have d3 : World.cell? w3 ⟨w.heap.size, 3, none⟩ = some (.int .i64 qty) := Blk.cell b4 3; have d4 : World.cell? w3 ⟨w.heap.size, 4, none⟩ = some (.int .i64 price) := Blk.cell b4 4; have d5 : World.cell? w3 ⟨w.heap.size, 5, none⟩ = some (.int .i64 cur) := Blk.cell b4 5; have d6 : World.cell? w3 ⟨w.heap.size, 6, none⟩ = some (.int .i64 tax) := Blk.cell b4 6; have d7 : World.cell? w3 ⟨w.heap.size, 7, none⟩ = some (.string who) := Blk.cell b4 7; have d8 : World.cell? w3 ⟨w.heap.size, 8, none⟩ = some (.int .i64 stamp) := Blk.cell b4 8; have d9 : World.cell? w3 ⟨w.heap.size, 9, none⟩ = some (.string note) := Blk.cell b4 9))
        | (go_at_call 117; (with_reducible refine (K4.out _).mono ?_); rintro e w4 ⟨rfl, hx4⟩; have hy4 : Ext w3 w4 := (by repeat (first | with_reducible exact Below.refl _ _ | with_reducible assumption | with_reducible refine ExtD ?_ | with_reducible refine ExtDN ?_ | with_reducible refine ExtA ?_ | (with_reducible refine ExtR ?_ ?_; (first | omega | (dsimp only; omega) | (simp; done) | (simp; omega))) | (with_reducible refine ExtS ?_ ?_; (first | omega | (dsimp only; omega) | (simp; done) | (simp; omega))) | with_reducible refine Ext.tr ?_ (by with_reducible assumption))); have b5 := Ext.blk hy4 b4; (have d0 : World.cell? w4 ⟨w.heap.size, 0, none⟩ = some (.int .i64 kind) := Blk.cell b5 0; have d1 : World.cell? w4 ⟨w.heap.size, 1, none⟩ = some (.int .i64 order) := Blk.cell b5 1; have d2 : World.cell? w4 ⟨w.heap.size, 2, none⟩ = some (.int .i64 item) := Blk.cell b5 2; have d3 : World.cell? w4 ⟨w.heap.size, 3, none⟩ = some (.int .i64 qty) := Blk.cell b5 3; have d4 : World.cell? w4 ⟨w.heap.size, 4, none⟩ = some (.int .i64 price) := Blk.cell b5 4; have d5 : World.cell? w4 ⟨w.heap.size, 5, none⟩ = some (.int .i64 cur) := Blk.cell b5 5; have d6 : World.cell? w4 ⟨w.heap.size, 6, none⟩ = some (.int .i64 tax) := Blk.cell b5 6; have d7 : World.cell? w4 ⟨w.heap.size, 7, none⟩ = some (.string who) := Blk.cell b5 7; have d8 : World.cell? w4 ⟨w.heap.size, 8, none⟩ = some (.int .i64 stamp) := Blk.cell b5 8; have d9 : World.cell? w4 ⟨w.heap.size, 9, none⟩ = some (.string note) := Blk.cell b5 9)))) | fail
      all_goals
        go_wp2_with fail
        go_ret
        exact ⟨by rw [Hv3.out]; rfl, (by repeat (first | with_reducible exact Below.refl _ _ | with_reducible assumption | with_reducible refine ExtD ?_ | with_reducible refine ExtDN ?_ | with_reducible refine ExtA ?_ | (with_reducible refine ExtR ?_ ?_; (first | omega | (dsimp only; omega) | (simp; done) | (simp; omega))) | (with_reducible refine ExtS ?_ ?_; (first | omega | (dsimp only; omega) | (simp; done) | (simp; omega))) | with_reducible refine Ext.tr ?_ (by with_reducible assumption)))⟩
end Go.Proofs.YtjomgppbialeoaaGreat
