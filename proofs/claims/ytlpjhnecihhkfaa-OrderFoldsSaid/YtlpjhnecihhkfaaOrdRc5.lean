/-
  The walk of the reference's Check at version 5. (Written by wip/tools/gen_rcheck.py.)
-/
import Derived.Test.YtlpjhnecihhkfaaOrdRc
namespace Go.Proofs.Ytlpjhnecihhkfaa
open Go.RowKit
set_option linter.unusedVariables false
set_option linter.unusedSimpArgs false
set_option maxRecDepth 100000 in
set_option maxHeartbeats 4000000 in
theorem rcheck5 (e : Ev) (w : World) (hw : e.who.size ≤ 4611686018427387904) (hw2 : e.note.size ≤ 4611686018427387904) :
    Calls Try.prog 19 #[.int .i64 5, .agg (evcells e)] w (RPost w 10 10 false e) := by
  have KL := Lib.hid last5
  have KH := Lib.hid has5
  have KN := Lib.hid fun W => nums_any e W
  have HOK : Hid (ROk 10 10 false e ↔ (1 ≤ e.kind ∧ e.kind ≤ 10) ∧ e.who.size ≤ 16 ∧ e.note.size ≤ 120 ∧ (∀ t, 1 ≤ t → t ≤ 10 → tagOk 10 e t) ∧ (false = true → e.note.size = 0) ∧ plainB e.who = true) := Lib.hid ⟨fun ⟨a, b, c, d, f, g⟩ => ⟨a, b, c, d, f, g⟩, fun ⟨a, b, c, d, f, g⟩ => ⟨a, b, c, d, f, g⟩⟩
  have HNC := Lib.hid fun t h => num_cell e (t := t) h
  unfold RPost
  generalize ROk 10 10 false e = OK at *
  obtain ⟨E, hE⟩ : ∃ E, E = e := ⟨_, rfl⟩
  have HT : Hid (∀ t, tagOk 10 E t ↔ ¬ (numAt E t < lowAt t) ∧ ¬ (highAt t < numAt E t) ∧ (t ≤ 10 ∨ numAt E t = 0)) := Lib.hid fun t => Iff.rfl
  rw [← hE] at HNC HOK
  have HE : Hid (E.kind = e.kind ∧ E.who = e.who ∧ E.note = e.note) := Lib.hid ⟨by rw [hE], by rw [hE], by rw [hE]⟩
  rw [HE.out.1, HE.out.2.1, HE.out.2.2] at HOK
  have HNE : Hid (∀ W g, Blk W g 3 #[.int .i64 0, .int .i64 e.kind, .int .i64 e.order, .int .i64 e.item, .int .i64 e.qty, .int .i64 e.price, .int .i64 e.cur, .int .i64 e.tax, .int .i64 0, .int .i64 e.stamp, .int .i64 0] → ∀ t, t < 11 → W.cell? ⟨g, t, none⟩ = some (.int .i64 (numAt E t))) := Lib.hid fun W g hb t ht => by rw [hb.cell]; rw [← hE]; exact HNC.out t ht
  clear hE HNC HE
  obtain ⟨ek, eo, ei, eq, ep, ec, et, ew, es, en⟩ := e
  unfold evcells at *
  dsimp only at *
  have HS := Lib.hid (fun w' (h : Ext (w.alloc (.cells #[.int .i64 ek, .int .i64 eo, .int .i64 ei, .int .i64 eq, .int .i64 ep, .int .i64 ec, .int .i64 et, .string ew, .int .i64 es, .string en] 28)) w') => (⟨h, (Ext.blk h (BlkN rfl)).cell 0, (Ext.blk h (BlkN rfl)).cell 1, (Ext.blk h (BlkN rfl)).cell 2, (Ext.blk h (BlkN rfl)).cell 3, (Ext.blk h (BlkN rfl)).cell 4, (Ext.blk h (BlkN rfl)).cell 5, (Ext.blk h (BlkN rfl)).cell 6, (Ext.blk h (BlkN rfl)).cell 7, (Ext.blk h (BlkN rfl)).cell 8, (Ext.blk h (BlkN rfl)).cell 9⟩ : (fun w' : World => Ext (w.alloc (.cells #[.int .i64 ek, .int .i64 eo, .int .i64 ei, .int .i64 eq, .int .i64 ep, .int .i64 ec, .int .i64 et, .string ew, .int .i64 es, .string en] 28)) w' ∧ w'.cell? ⟨w.heap.size, 0, none⟩ = some (.int .i64 ek) ∧ w'.cell? ⟨w.heap.size, 1, none⟩ = some (.int .i64 eo) ∧ w'.cell? ⟨w.heap.size, 2, none⟩ = some (.int .i64 ei) ∧ w'.cell? ⟨w.heap.size, 3, none⟩ = some (.int .i64 eq) ∧ w'.cell? ⟨w.heap.size, 4, none⟩ = some (.int .i64 ep) ∧ w'.cell? ⟨w.heap.size, 5, none⟩ = some (.int .i64 ec) ∧ w'.cell? ⟨w.heap.size, 6, none⟩ = some (.int .i64 et) ∧ w'.cell? ⟨w.heap.size, 7, none⟩ = some (.string ew) ∧ w'.cell? ⟨w.heap.size, 8, none⟩ = some (.int .i64 es) ∧ w'.cell? ⟨w.heap.size, 9, none⟩ = some (.string en)) w'))
  by_cases hk1 : ek < 1
  · go_enter Try.func19, Try.ntmps19
    go_wp2_with fail
    all_goals try (first | (go_region_with (fail)) | fail)
    all_goals
      go_wp2_with fail
      go_ret
      exact ⟨31, rfl, ⟨fun h => by omega, fun h => by have := (HOK.out.1 h).1; omega⟩, exA⟩
  have td1 : decide (ek < 1) = false := by simp; omega
  by_cases hk2 : 10 < ek
  · have td2 : decide ((10 : Int) < ek) = true := by simp; omega
    go_enter Try.func19, Try.ntmps19
    go_wp2_with fail
    go_region_held3 (fun w' : World => Ext (w.alloc (.cells #[.int .i64 ek, .int .i64 eo, .int .i64 ei, .int .i64 eq, .int .i64 ep, .int .i64 ec, .int .i64 et, .string ew, .int .i64 es, .string en] 28)) w' ∧ w'.cell? ⟨w.heap.size, 0, none⟩ = some (.int .i64 ek) ∧ w'.cell? ⟨w.heap.size, 1, none⟩ = some (.int .i64 eo) ∧ w'.cell? ⟨w.heap.size, 2, none⟩ = some (.int .i64 ei) ∧ w'.cell? ⟨w.heap.size, 3, none⟩ = some (.int .i64 eq) ∧ w'.cell? ⟨w.heap.size, 4, none⟩ = some (.int .i64 ep) ∧ w'.cell? ⟨w.heap.size, 5, none⟩ = some (.int .i64 ec) ∧ w'.cell? ⟨w.heap.size, 6, none⟩ = some (.int .i64 et) ∧ w'.cell? ⟨w.heap.size, 7, none⟩ = some (.string ew) ∧ w'.cell? ⟨w.heap.size, 8, none⟩ = some (.int .i64 es) ∧ w'.cell? ⟨w.heap.size, 9, none⟩ = some (.string en)) (exact HS.out _ exA) ((go_at_call 37; (with_reducible refine (KL.out _).mono ?_); rintro e w1 ⟨rfl, hx1⟩))
    go_wp2_with fail
    go_ret
    exact ⟨31, rfl, ⟨fun h => by omega, fun h => by have := (HOK.out.1 h).1; omega⟩, exA⟩
  have td2 : decide ((10 : Int) < ek) = false := by simp; omega
  by_cases hs : 16 < ew.size ∨ 120 < en.size
  · go_enter Try.func19, Try.ntmps19
    go_wp2_with fail
    go_region_held3 (fun w' : World => Ext (w.alloc (.cells #[.int .i64 ek, .int .i64 eo, .int .i64 ei, .int .i64 eq, .int .i64 ep, .int .i64 ec, .int .i64 et, .string ew, .int .i64 es, .string en] 28)) w' ∧ w'.cell? ⟨w.heap.size, 0, none⟩ = some (.int .i64 ek) ∧ w'.cell? ⟨w.heap.size, 1, none⟩ = some (.int .i64 eo) ∧ w'.cell? ⟨w.heap.size, 2, none⟩ = some (.int .i64 ei) ∧ w'.cell? ⟨w.heap.size, 3, none⟩ = some (.int .i64 eq) ∧ w'.cell? ⟨w.heap.size, 4, none⟩ = some (.int .i64 ep) ∧ w'.cell? ⟨w.heap.size, 5, none⟩ = some (.int .i64 ec) ∧ w'.cell? ⟨w.heap.size, 6, none⟩ = some (.int .i64 et) ∧ w'.cell? ⟨w.heap.size, 7, none⟩ = some (.string ew) ∧ w'.cell? ⟨w.heap.size, 8, none⟩ = some (.int .i64 es) ∧ w'.cell? ⟨w.heap.size, 9, none⟩ = some (.string en)) (exact HS.out _ exA) ((go_at_call 37; (with_reducible refine (KL.out _).mono ?_); rintro e w1 ⟨rfl, hx1⟩; have h3 := HS.out w1 exA; go_split_ands))
    by_cases hs1 : 16 < ew.size
    · go_wp2_with fail
      go_ret
      exact ⟨24, rfl, ⟨fun h => by omega, fun h => by have := (HOK.out.1 h).2; omega⟩, exA⟩
    · have hs2 : 120 < en.size := by omega
      go_wp2_with fail
      go_ret
      exact ⟨24, rfl, ⟨fun h => by omega, fun h => by have := (HOK.out.1 h).2; omega⟩, exA⟩
  have hs1 : ¬ 16 < ew.size := by omega
  have hs2 : ¬ 120 < en.size := by omega
  clear hs
  go_enter Try.func19, Try.ntmps19
  go_wp2_with fail
  go_region_held3 (fun w' : World => Ext (w.alloc (.cells #[.int .i64 ek, .int .i64 eo, .int .i64 ei, .int .i64 eq, .int .i64 ep, .int .i64 ec, .int .i64 et, .string ew, .int .i64 es, .string en] 28)) w' ∧ w'.cell? ⟨w.heap.size, 0, none⟩ = some (.int .i64 ek) ∧ w'.cell? ⟨w.heap.size, 1, none⟩ = some (.int .i64 eo) ∧ w'.cell? ⟨w.heap.size, 2, none⟩ = some (.int .i64 ei) ∧ w'.cell? ⟨w.heap.size, 3, none⟩ = some (.int .i64 eq) ∧ w'.cell? ⟨w.heap.size, 4, none⟩ = some (.int .i64 ep) ∧ w'.cell? ⟨w.heap.size, 5, none⟩ = some (.int .i64 ec) ∧ w'.cell? ⟨w.heap.size, 6, none⟩ = some (.int .i64 et) ∧ w'.cell? ⟨w.heap.size, 7, none⟩ = some (.string ew) ∧ w'.cell? ⟨w.heap.size, 8, none⟩ = some (.int .i64 es) ∧ w'.cell? ⟨w.heap.size, 9, none⟩ = some (.string en)) (exact HS.out _ exA) ((go_at_call 37; (with_reducible refine (KL.out _).mono ?_); rintro e w1 ⟨rfl, hx1⟩; have h3 := HS.out w1 exA; go_split_ands))
  have hE1 : Blk w1 w.heap.size 28 #[.int .i64 ek, .int .i64 eo, .int .i64 ei, .int .i64 eq, .int .i64 ep, .int .i64 ec, .int .i64 et, .string ew, .int .i64 es, .string en] := BlkE (BlkD (BlkN rfl)) hx1
  have hEA : ∀ o1 o2 i v, w1.cell? ⟨w.heap.size, i, none⟩ = some v → ((w1.alloc o1).alloc o2).cell? ⟨w.heap.size, i, none⟩ = some v := fun o1 o2 i v h => Ext.cell (ExtA (ExtA (Ext.rfl' w1))) h
  go_wp2_with (first
    | (go_at_call 38; (with_reducible refine (KN.out _).mono ?_); rintro e w5 ⟨gn, rfl, hx5, bn⟩))
  have bl : Blk w5 w1.heap.size 3 #[.int .i64 0, .int .i64 1, .int .i64 1, .int .i64 0, .int .i64 0, .int .i64 0, .int .i64 0, .int .i64 0, .int .i64 0, .int .i64 0, .int .i64 0] := bkV
  have bh : Blk w5 (w1.heap.size + 1) 3 #[.int .i64 0, .int .i64 10, .int .i64 1099511627776, .int .i64 65535, .int .i64 10000, .int .i64 100000000, .int .i64 3, .int .i64 5000, .int .i64 0, .int .i64 1099511627776, .int .i64 0] := bkV
  have hE5 : Blk w5 w.heap.size 28 #[.int .i64 ek, .int .i64 eo, .int .i64 ei, .int .i64 eq, .int .i64 ep, .int .i64 ec, .int .i64 et, .string ew, .int .i64 es, .string en] := bkV
  have hXw5 : Ext w w5 := exA
  clear hx1 hx5 hEA hE1 hw2 KL KN HS
  go_split_ands
  generalize w1.heap.size + 1 = gh at *
  generalize w1.heap.size = gl at *
  go_loopw [8] (fun c8 wr => CkR w5 10 E c8 wr) (fun c8 _ => 11 - (intOf c8).toNat)
  case atStart => exact ⟨1, rfl, by omega, by omega, fun j a b => by omega, Below.refl _ _⟩
  case round =>
    obtain ⟨t, rfl, ht1, ht2, hok, hx⟩ := hrel
    by_cases hlt : t < 11
    · have cn := HNE.out wr gn (BlkE bn hx) t hlt
      have cl : wr.cell? ⟨gl, t, none⟩ = some (.int .i64 (lowAt t)) := ((BlkE bl hx).cell t).trans (low_cell hlt)
      have ch : wr.cell? ⟨gh, t, none⟩ = some (.int .i64 (highAt t)) := ((BlkE bh hx).cell t).trans (high_cell hlt)
      have Ht := Lib.hid (HT.out t)
      have Hok := Lib.hid hok
      clear hok
      generalize numAt E t = x at *
      generalize lowAt t = lo at *
      generalize highAt t = hi at *
      have hi0 : (0 : Int) ≤ (t : Int) := by omega
      have hi1 : (t : Int) < 11 := by omega
      have hi2 : (t : Int) ≤ 10 := by omega
      have mixed : Try.prog.follows Departure.mixedOrders = true := by kernel_rfl
      by_cases g0 : 10 < t
      · have tg0 : decide ((10 : Int) < (t : Int)) = true := by simp; omega
        by_cases z : x = 0
        · have tz : (x != 0) = false := by simp; exact z
          have Z := Lib.hid z
          clear z
          by_cases g1 : x < lo
          · have tg1 : decide (x < lo) = true := by simpa using g1
            go_wp2_with (go_at_call 39; (with_reducible refine (KH.out _).mono ?_); rintro e w6 ⟨rfl, hx6⟩; have cn6 := hx6.cell cn; have cl6 := hx6.cell cl; have ch6 := hx6.cell ch)
            all_goals try (first | (go_quiet (fail)) | (go_region_with (fail)))
            all_goals (go_wp2_with fail)
            all_goals first
              | (go_ret
                 exact ⟨32, rfl, ⟨fun h => by omega, fun h => by have := Ht.out.1 ((HOK.out.1 h).2.2.2.1 t ht1 (by omega)); first | omega | (have hz := Z.out; omega)⟩, exA⟩)
              | (refine And.intro ?_ ?_
                 · exact ⟨t + 1, by go_num, by omega, by omega, fun j a b => by
                     rcases Nat.lt_or_ge j t with hj | hj
                     · exact Hok.out j a hj
                     · obtain rfl : j = t := by omega
                       exact Ht.out.2 (by first | omega | (have hz := Z.out; omega)), exA⟩
                 · simp [intOf]; omega)
          have tg1 : decide (x < lo) = false := by simp; omega
          by_cases g2 : hi < x
          · have tg2 : decide (hi < x) = true := by simpa using g2
            go_wp2_with (go_at_call 39; (with_reducible refine (KH.out _).mono ?_); rintro e w6 ⟨rfl, hx6⟩; have cn6 := hx6.cell cn; have cl6 := hx6.cell cl; have ch6 := hx6.cell ch)
            all_goals try (first | (go_quiet (fail)) | (go_region_with (fail)))
            all_goals (go_wp2_with fail)
            all_goals first
              | (go_ret
                 exact ⟨32, rfl, ⟨fun h => by omega, fun h => by have := Ht.out.1 ((HOK.out.1 h).2.2.2.1 t ht1 (by omega)); first | omega | (have hz := Z.out; omega)⟩, exA⟩)
              | (refine And.intro ?_ ?_
                 · exact ⟨t + 1, by go_num, by omega, by omega, fun j a b => by
                     rcases Nat.lt_or_ge j t with hj | hj
                     · exact Hok.out j a hj
                     · obtain rfl : j = t := by omega
                       exact Ht.out.2 (by first | omega | (have hz := Z.out; omega)), exA⟩
                 · simp [intOf]; omega)
          have tg2 : decide (hi < x) = false := by simp; omega
          go_wp2_with (go_at_call 39; (with_reducible refine (KH.out _).mono ?_); rintro e w6 ⟨rfl, hx6⟩; have cn6 := hx6.cell cn; have cl6 := hx6.cell cl; have ch6 := hx6.cell ch)
          all_goals try (first | (go_quiet (fail)) | (go_region_with (fail)))
          all_goals (go_wp2_with fail)
          all_goals first
            | (go_ret
               exact ⟨32, rfl, ⟨fun h => by omega, fun h => by have := Ht.out.1 ((HOK.out.1 h).2.2.2.1 t ht1 (by omega)); first | omega | (have hz := Z.out; omega)⟩, exA⟩)
            | (refine And.intro ?_ ?_
               · exact ⟨t + 1, by go_num, by omega, by omega, fun j a b => by
                   rcases Nat.lt_or_ge j t with hj | hj
                   · exact Hok.out j a hj
                   · obtain rfl : j = t := by omega
                     exact Ht.out.2 (by first | omega | (have hz := Z.out; omega)), exA⟩
               · simp [intOf]; omega)
        · have tz : (x != 0) = true := by simp; exact z
          have Z := Lib.hid z
          clear z
          go_wp2_with (go_at_call 39; (with_reducible refine (KH.out _).mono ?_); rintro e w6 ⟨rfl, hx6⟩; have cn6 := hx6.cell cn; have cl6 := hx6.cell cl; have ch6 := hx6.cell ch)
          all_goals try (first | (go_quiet (fail)) | (go_region_with (fail)))
          all_goals (go_wp2_with fail)
          all_goals first
            | (go_ret
               exact ⟨32, rfl, ⟨fun h => by omega, fun h => by have := Ht.out.1 ((HOK.out.1 h).2.2.2.1 t ht1 (by omega)); first | omega | (have hz := Z.out; omega)⟩, exA⟩)
            | (refine And.intro ?_ ?_
               · exact ⟨t + 1, by go_num, by omega, by omega, fun j a b => by
                   rcases Nat.lt_or_ge j t with hj | hj
                   · exact Hok.out j a hj
                   · obtain rfl : j = t := by omega
                     exact Ht.out.2 (by first | omega | (have hz := Z.out; omega)), exA⟩
               · simp [intOf]; omega)
      have tg0 : decide ((10 : Int) < (t : Int)) = false := by simp; omega
      by_cases g1 : x < lo
      · have tg1 : decide (x < lo) = true := by simpa using g1
        go_wp2_with (go_at_call 39; (with_reducible refine (KH.out _).mono ?_); rintro e w6 ⟨rfl, hx6⟩; have cn6 := hx6.cell cn; have cl6 := hx6.cell cl; have ch6 := hx6.cell ch)
        all_goals try (first | (go_quiet (fail)) | (go_region_with (fail)))
        all_goals (go_wp2_with fail)
        all_goals first
          | (go_ret
             exact ⟨32, rfl, ⟨fun h => by omega, fun h => by have := Ht.out.1 ((HOK.out.1 h).2.2.2.1 t ht1 (by omega)); first | omega | (have hz := Z.out; omega)⟩, exA⟩)
          | (refine And.intro ?_ ?_
             · exact ⟨t + 1, by go_num, by omega, by omega, fun j a b => by
                 rcases Nat.lt_or_ge j t with hj | hj
                 · exact Hok.out j a hj
                 · obtain rfl : j = t := by omega
                   exact Ht.out.2 (by first | omega | (have hz := Z.out; omega)), exA⟩
             · simp [intOf]; omega)
      have tg1 : decide (x < lo) = false := by simp; omega
      by_cases g2 : hi < x
      · have tg2 : decide (hi < x) = true := by simpa using g2
        go_wp2_with (go_at_call 39; (with_reducible refine (KH.out _).mono ?_); rintro e w6 ⟨rfl, hx6⟩; have cn6 := hx6.cell cn; have cl6 := hx6.cell cl; have ch6 := hx6.cell ch)
        all_goals try (first | (go_quiet (fail)) | (go_region_with (fail)))
        all_goals (go_wp2_with fail)
        all_goals first
          | (go_ret
             exact ⟨32, rfl, ⟨fun h => by omega, fun h => by have := Ht.out.1 ((HOK.out.1 h).2.2.2.1 t ht1 (by omega)); first | omega | (have hz := Z.out; omega)⟩, exA⟩)
          | (refine And.intro ?_ ?_
             · exact ⟨t + 1, by go_num, by omega, by omega, fun j a b => by
                 rcases Nat.lt_or_ge j t with hj | hj
                 · exact Hok.out j a hj
                 · obtain rfl : j = t := by omega
                   exact Ht.out.2 (by first | omega | (have hz := Z.out; omega)), exA⟩
             · simp [intOf]; omega)
      have tg2 : decide (hi < x) = false := by simp; omega
      go_wp2_with (go_at_call 39; (with_reducible refine (KH.out _).mono ?_); rintro e w6 ⟨rfl, hx6⟩; have cn6 := hx6.cell cn; have cl6 := hx6.cell cl; have ch6 := hx6.cell ch)
      all_goals try (first | (go_quiet (fail)) | (go_region_with (fail)))
      all_goals (go_wp2_with fail)
      all_goals first
        | (go_ret
           exact ⟨32, rfl, ⟨fun h => by omega, fun h => by have := Ht.out.1 ((HOK.out.1 h).2.2.2.1 t ht1 (by omega)); first | omega | (have hz := Z.out; omega)⟩, exA⟩)
        | (refine And.intro ?_ ?_
           · exact ⟨t + 1, by go_num, by omega, by omega, fun j a b => by
               rcases Nat.lt_or_ge j t with hj | hj
               · exact Hok.out j a hj
               · obtain rfl : j = t := by omega
                 exact Ht.out.2 (by first | omega | (have hz := Z.out; omega)), exA⟩
           · simp [intOf]; omega)
    · obtain rfl : t = 11 := by omega
      rw [show ((11 : Nat) : Int) = 11 from rfl]
      have Hok := Lib.hid hok
      have e7 : wr.cell? ⟨w.heap.size, 7, none⟩ = some (.string ew) := (BlkE hE5 hx).cell 7
      have e9 : wr.cell? ⟨w.heap.size, 9, none⟩ = some (.string en) := (BlkE hE5 hx).cell 9
      clear hok
      go_wp2_with fail
      go_loopw [9] (fun c9 wr2 => plainR w5 ew c9 wr2) (fun c9 _ => ew.size - (intOf c9).toNat)
      case atStart => exact ⟨0, rfl, by omega, rfl, exA⟩
      case round =>
        obtain ⟨k, rfl, hk, hp, hxp⟩ := hrel
        have Hp := Lib.hid hp
        have e7' : wr.cell? ⟨w.heap.size, 7, none⟩ = some (.string ew) := (BlkE hE5 hxp).cell 7
        clear hp
        by_cases hlt : k < ew.size
        · have Hi := Lib.hid (pcB_iff ew[k])
          go_wp2_with fail
          all_goals try (go_quiet (fail))
          all_goals (go_wp2_with fail)
          all_goals first
            | (refine And.intro ?_ ?_
               · exact ⟨k + 1, by go_num, by omega, plain_next hlt Hp.out (Hi.out.2 (by simp at *; omega)), exA⟩
               · simp [intOf]; omega)
            | (go_roundw
               case rel => exact ⟨k + 1, by go_num, by omega, plain_next hlt Hp.out (Hi.out.2 (by simp at *; omega)), exA⟩
               case measure => simp [intOf]; omega)
            | (go_ret
               have hb : pcB ew[k] = false := by
                 cases hb : pcB ew[k] with
                 | false => rfl
                 | true => exfalso; have := Hi.out.1 hb; simp at *; omega
               exact ⟨32, rfl, ⟨fun h => by omega, fun h => by have h2 := (HOK.out.1 h).2.2.2.2.2; rw [plain_bad hlt hb] at h2; cases h2⟩, exA⟩)
        · have hk2 : k = ew.size := by omega
          have Hv : Hid (plainB ew = true) := Lib.hid (by
            have h := Hp.out
            rw [List.take_of_length_le (by simp; have : ew.data.size = ew.size := rfl; omega)] at h
            exact h)
          clear Hp
          subst hk2
          go_wp2_with fail
          go_ret
          exact ⟨0, rfl, ⟨fun _ => HOK.out.2 ⟨by omega, by omega, by omega, fun t a b => Hok.out t a (by omega), (fun h => by cases h), Hv.out⟩, fun _ => rfl⟩, exA⟩
end Go.Proofs.Ytlpjhnecihhkfaa
