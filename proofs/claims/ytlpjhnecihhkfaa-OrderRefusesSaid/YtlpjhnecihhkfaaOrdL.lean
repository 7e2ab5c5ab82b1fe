/-
  The walk of order.lined.
-/
import Derived.Test.YtlpjhnecihhkfaaOrdX
namespace Go.Proofs.Ytlpjhnecihhkfaa
open Go.RowKit
set_option linter.unusedVariables false
set_option linter.unusedSimpArgs false
def lastOr (b : Int) (a : List Ln) : Int := (a.getLast?.map (·.item)).getD b
theorem rises_snoc (b : Int) (a : List Ln) (l : Ln) : risesB b (a ++ [l]) = (risesB b a && decide (lastOr b a < l.item) && lnB l) := by
  induction a generalizing b with
  | nil =>
    show (decide (b < l.item) && lnB l && true) = (true && decide (b < l.item) && lnB l)
    rw [Bool.and_true, Bool.true_and]
  | cons x r ih =>
    have e : lastOr b (x :: r) = lastOr x.item r := by
      unfold lastOr
      rw [List.getLast?_cons]
      cases r.getLast? <;> simp
    simp only [List.cons_append, risesB, ih, e, Bool.and_assoc]
theorem rises_pre {b : Int} {a r : List Ln} (h : risesB b (a ++ r) = true) : risesB b a = true := by
  induction a generalizing b with
  | nil => rfl
  | cons x t ih =>
    obtain ⟨h1, h2, h3⟩ := rises_cons.1 h
    exact rises_cons.2 ⟨h1, h2, ih h3⟩
theorem lined_bad {ls : List Ln} {k : Nat} (h : risesB (-1) (ls.take k) = false) : linedB ls = false := by
  unfold linedB
  cases hr : risesB (-1) ls with
  | false => simp
  | true =>
    rw [← List.take_append_drop k ls] at hr
    rw [rises_pre hr] at h
    cases h
def LinedR (W : World) (ls : List Ln) (c10 : Value) (wr : World) : Prop :=
  ∃ k : Nat, c10 = .int .i64 (k : Nat) ∧ k ≤ ls.length ∧ risesB (-1) (ls.take k) = true ∧ Ext W wr
theorem rises_take {ls : List Ln} {k : Nat} (hk : k < ls.length) : risesB (-1) (ls.take (k + 1)) = (risesB (-1) (ls.take k) && decide (lastOr (-1) (ls.take k) < ls[k].item) && lnB ls[k]) := by
  rw [List.take_succ_eq_append_getElem hk, rises_snoc]
theorem last_take {ls : List Ln} {j : Nat} (hj : j < ls.length) : lastOr (-1) (ls.take (j + 1)) = ls[j].item := by
  unfold lastOr
  rw [List.take_succ_eq_append_getElem hj, List.getLast?_append]
  simp
set_option maxRecDepth 100000 in
set_option maxHeartbeats 2000000 in
theorem lined_any (ls : List Ln) (A : Option Addr) (c : Nat) (w : World) (hr : LsRd w A ls) (hn : ls.length ≤ 4611686018427387904) :
    Calls Try.prog 54 #[.slice A ls.length c] w fun e w' => e = .returned (.bool (linedB ls)) ∧ Ext w w' := by
  obtain ⟨n, hnn⟩ : ∃ n, n = ls.length := ⟨_, rfl⟩
  rw [← hnn] at hn ⊢
  have HN := Lib.hid hnn
  clear hnn
  by_cases h16 : 16 < n
  · have Hv : Hid (linedB ls = false) := Lib.hid (by unfold linedB; rw [← HN.out]; simp; omega)
    go_enter Try.func54, Try.ntmps54
    go_wp2_with fail
    go_ret
    exact ⟨by rw [Hv.out]; rfl, (by repeat (first | with_reducible exact Below.refl _ _ | with_reducible assumption | with_reducible refine ExtD ?_ | with_reducible refine ExtDN ?_ | with_reducible refine ExtA ?_ | (with_reducible refine ExtR ?_ ?_; (first | omega | (dsimp only; omega) | (simp; done) | (simp; omega))) | (with_reducible refine ExtS ?_ ?_; (first | omega | (dsimp only; omega) | (simp; done) | (simp; omega))) | with_reducible refine Ext.tr ?_ (by with_reducible assumption)))⟩
  have Hv : Hid (linedB ls = risesB (-1) ls) := Lib.hid (by unfold linedB; rw [← HN.out]; simp; omega)
  go_enter Try.func54, Try.ntmps54
  go_wp2_with fail
  go_loopw [10] (fun c10 wr => LinedR w ls c10 wr) (fun c10 _ => n - (intOf c10).toNat)
  case atStart => exact ⟨0, rfl, by omega, rfl, (by repeat (first | with_reducible exact Below.refl _ _ | with_reducible assumption | with_reducible refine ExtD ?_ | with_reducible refine ExtDN ?_ | with_reducible refine ExtA ?_ | (with_reducible refine ExtR ?_ ?_; (first | omega | (dsimp only; omega) | (simp; done) | (simp; omega))) | (with_reducible refine ExtS ?_ ?_; (first | omega | (dsimp only; omega) | (simp; done) | (simp; omega))) | with_reducible refine Ext.tr ?_ (by with_reducible assumption)))⟩
  case round =>
    obtain ⟨k, rfl, hk, hrs, hx⟩ := hrel
    rw [← HN.out] at hk
    have Hrs := Lib.hid hrs
    clear hrs
    by_cases hlt : k < n
    · obtain ⟨b, o, rfl, hc⟩ := ls_at hr (show k < ls.length by rw [← HN.out]; exact hlt)
      have Hc := Lib.hid (range_ext hc hx)
      have hal := alloc_ln
      have Hs1 := Lib.hid (rises_take (ls := ls) (k := k) (show k < ls.length by rw [← HN.out]; exact hlt))
      rw [Hrs.out, Bool.true_and] at Hs1
      clear hc
      generalize ls[k]'(by rw [← HN.out]; exact hlt) = l at *
      obtain ⟨li, lp, lq, lsh⟩ := l
      unfold lncells at Hc hal
      dsimp only at Hc hal
      have e0 : wr.cell? ⟨b, o + k * 4, none⟩ = some (.int .i64 li) := Hc.out 0 _ rfl
      have e1 : wr.cell? ⟨b, o + k * 4 + 1, none⟩ = some (.int .i64 lp) := Hc.out 1 _ rfl
      have e2 : wr.cell? ⟨b, o + k * 4 + 2, none⟩ = some (.int .i64 lq) := Hc.out 2 _ rfl
      have e3 : wr.cell? ⟨b, o + k * 4 + 3, none⟩ = some (.int .i64 lsh) := Hc.out 3 _ rfl
      obtain ⟨B1, hB1⟩ : ∃ b, b = wi li 0 65535 := ⟨_, rfl⟩
      obtain ⟨B2, hB2⟩ : ∃ b, b = wi lp 0 100000000 := ⟨_, rfl⟩
      obtain ⟨B3, hB3⟩ : ∃ b, b = wi lq 1 100000 := ⟨_, rfl⟩
      obtain ⟨B4, hB4⟩ : ∃ b, b = wi lsh 0 lq := ⟨_, rfl⟩
      have K1 := Lib.hid fun W => within_any li 0 65535 W
      have K2 := Lib.hid fun W => within_any lp 0 100000000 W
      have K3 := Lib.hid fun W => within_any lq 1 100000 W
      have K4 := Lib.hid fun W => within_any lsh 0 lq W
      have HL : Hid (lnB ⟨li, lp, lq, lsh⟩ = (B1 && B2 && B3 && B4)) := Lib.hid (by rw [hB1, hB2, hB3, hB4]; rfl)
      rw [← hB1] at K1
      rw [← hB2] at K2
      rw [← hB3] at K3
      rw [← hB4] at K4
      have HB1 := Lib.hid hB1
      clear hB1 hB2 hB3 hB4
      by_cases h0 : k = 0
      · have hz : decide ((0 : Int) < (k : Int)) = false := by simp; omega
        have tz : decide (0 < k) = false := by simp; omega
        have Hs2 : Hid (risesB (-1) (ls.take (k + 1)) = (decide (-1 < li) && lnB ⟨li, lp, lq, lsh⟩)) := Lib.hid (by rw [Hs1.out, h0]; rfl)
        have H0 := Lib.hid h0
        clear h0
        go_wp2_with fail
        go_quiet (fail)
        cases B1 with
        | false =>
          go_wp2_with (first
  | (go_at_call 53; (with_reducible refine (K1.out _).mono ?_); rintro e w1 ⟨rfl, hx1⟩; have b1 : Blk w1 wr.heap.size 48 #[.int .i64 li, .int .i64 lp, .int .i64 lq, .int .i64 lsh] := Ext.blk hx1 (BlkDN (BlkN rfl)); have d1 : w1.cell? ⟨wr.heap.size, 1, none⟩ = some (.int .i64 lp) := b1.cell 1)
  | (go_at_call 53; (with_reducible refine (K2.out _).mono ?_); rintro e w2 ⟨rfl, hx2⟩; have b2 := Ext.blk hx2 b1; have d2 : w2.cell? ⟨wr.heap.size, 2, none⟩ = some (.int .i64 lq) := b2.cell 2)
  | (go_at_call 53; (with_reducible refine (K3.out _).mono ?_); rintro e w3 ⟨rfl, hx3⟩; have b3 := Ext.blk hx3 b2; have d3 : w3.cell? ⟨wr.heap.size, 3, none⟩ = some (.int .i64 lsh) := b3.cell 3; have d32 : w3.cell? ⟨wr.heap.size, 2, none⟩ = some (.int .i64 lq) := b3.cell 2)
  | (go_at_call 53; (with_reducible refine (K4.out _).mono ?_); rintro e w4 ⟨rfl, hx4⟩))
          go_ret
          exact ⟨by rw [lined_bad (k := k + 1) (by rw [Hs2.out, HL.out]; simp)]; rfl, (by repeat (first | with_reducible exact Below.refl _ _ | with_reducible assumption | with_reducible refine ExtD ?_ | with_reducible refine ExtDN ?_ | with_reducible refine ExtA ?_ | (with_reducible refine ExtR ?_ ?_; (first | omega | (dsimp only; omega) | (simp; done) | (simp; omega))) | (with_reducible refine ExtS ?_ ?_; (first | omega | (dsimp only; omega) | (simp; done) | (simp; omega))) | with_reducible refine Ext.tr ?_ (by with_reducible assumption)))⟩
        | true =>
          cases B2 with
          | false =>
            go_wp2_with (first
  | (go_at_call 53; (with_reducible refine (K1.out _).mono ?_); rintro e w1 ⟨rfl, hx1⟩; have b1 : Blk w1 wr.heap.size 48 #[.int .i64 li, .int .i64 lp, .int .i64 lq, .int .i64 lsh] := Ext.blk hx1 (BlkDN (BlkN rfl)); have d1 : w1.cell? ⟨wr.heap.size, 1, none⟩ = some (.int .i64 lp) := b1.cell 1)
  | (go_at_call 53; (with_reducible refine (K2.out _).mono ?_); rintro e w2 ⟨rfl, hx2⟩; have b2 := Ext.blk hx2 b1; have d2 : w2.cell? ⟨wr.heap.size, 2, none⟩ = some (.int .i64 lq) := b2.cell 2)
  | (go_at_call 53; (with_reducible refine (K3.out _).mono ?_); rintro e w3 ⟨rfl, hx3⟩; have b3 := Ext.blk hx3 b2; have d3 : w3.cell? ⟨wr.heap.size, 3, none⟩ = some (.int .i64 lsh) := b3.cell 3; have d32 : w3.cell? ⟨wr.heap.size, 2, none⟩ = some (.int .i64 lq) := b3.cell 2)
  | (go_at_call 53; (with_reducible refine (K4.out _).mono ?_); rintro e w4 ⟨rfl, hx4⟩))
            go_ret
            exact ⟨by rw [lined_bad (k := k + 1) (by rw [Hs2.out, HL.out]; simp)]; rfl, (by repeat (first | with_reducible exact Below.refl _ _ | with_reducible assumption | with_reducible refine ExtD ?_ | with_reducible refine ExtDN ?_ | with_reducible refine ExtA ?_ | (with_reducible refine ExtR ?_ ?_; (first | omega | (dsimp only; omega) | (simp; done) | (simp; omega))) | (with_reducible refine ExtS ?_ ?_; (first | omega | (dsimp only; omega) | (simp; done) | (simp; omega))) | with_reducible refine Ext.tr ?_ (by with_reducible assumption)))⟩
          | true =>
            cases B3 with
            | false =>
              go_wp2_with (first
  | (go_at_call 53; (with_reducible refine (K1.out _).mono ?_); rintro e w1 ⟨rfl, hx1⟩; have b1 : Blk w1 wr.heap.size 48 #[.int .i64 li, .int .i64 lp, .int .i64 lq, .int .i64 lsh] := Ext.blk hx1 (BlkDN (BlkN rfl)); have d1 : w1.cell? ⟨wr.heap.size, 1, none⟩ = some (.int .i64 lp) := b1.cell 1)
  | (go_at_call 53; (with_reducible refine (K2.out _).mono ?_); rintro e w2 ⟨rfl, hx2⟩; have b2 := Ext.blk hx2 b1; have d2 : w2.cell? ⟨wr.heap.size, 2, none⟩ = some (.int .i64 lq) := b2.cell 2)
  | (go_at_call 53; (with_reducible refine (K3.out _).mono ?_); rintro e w3 ⟨rfl, hx3⟩; have b3 := Ext.blk hx3 b2; have d3 : w3.cell? ⟨wr.heap.size, 3, none⟩ = some (.int .i64 lsh) := b3.cell 3; have d32 : w3.cell? ⟨wr.heap.size, 2, none⟩ = some (.int .i64 lq) := b3.cell 2)
  | (go_at_call 53; (with_reducible refine (K4.out _).mono ?_); rintro e w4 ⟨rfl, hx4⟩))
              go_ret
              exact ⟨by rw [lined_bad (k := k + 1) (by rw [Hs2.out, HL.out]; simp)]; rfl, (by repeat (first | with_reducible exact Below.refl _ _ | with_reducible assumption | with_reducible refine ExtD ?_ | with_reducible refine ExtDN ?_ | with_reducible refine ExtA ?_ | (with_reducible refine ExtR ?_ ?_; (first | omega | (dsimp only; omega) | (simp; done) | (simp; omega))) | (with_reducible refine ExtS ?_ ?_; (first | omega | (dsimp only; omega) | (simp; done) | (simp; omega))) | with_reducible refine Ext.tr ?_ (by with_reducible assumption)))⟩
            | true =>
              cases B4 with
              | false =>
                go_wp2_with (first
  | (go_at_call 53; (with_reducible refine (K1.out _).mono ?_); rintro e w1 ⟨rfl, hx1⟩; have b1 : Blk w1 wr.heap.size 48 #[.int .i64 li, .int .i64 lp, .int .i64 lq, .int .i64 lsh] := Ext.blk hx1 (BlkDN (BlkN rfl)); have d1 : w1.cell? ⟨wr.heap.size, 1, none⟩ = some (.int .i64 lp) := b1.cell 1)
  | (go_at_call 53; (with_reducible refine (K2.out _).mono ?_); rintro e w2 ⟨rfl, hx2⟩; have b2 := Ext.blk hx2 b1; have d2 : w2.cell? ⟨wr.heap.size, 2, none⟩ = some (.int .i64 lq) := b2.cell 2)
  | (go_at_call 53; (with_reducible refine (K3.out _).mono ?_); rintro e w3 ⟨rfl, hx3⟩; have b3 := Ext.blk hx3 b2; have d3 : w3.cell? ⟨wr.heap.size, 3, none⟩ = some (.int .i64 lsh) := b3.cell 3; have d32 : w3.cell? ⟨wr.heap.size, 2, none⟩ = some (.int .i64 lq) := b3.cell 2)
  | (go_at_call 53; (with_reducible refine (K4.out _).mono ?_); rintro e w4 ⟨rfl, hx4⟩))
                go_ret
                exact ⟨by rw [lined_bad (k := k + 1) (by rw [Hs2.out, HL.out]; simp)]; rfl, (by repeat (first | with_reducible exact Below.refl _ _ | with_reducible assumption | with_reducible refine ExtD ?_ | with_reducible refine ExtDN ?_ | with_reducible refine ExtA ?_ | (with_reducible refine ExtR ?_ ?_; (first | omega | (dsimp only; omega) | (simp; done) | (simp; omega))) | (with_reducible refine ExtS ?_ ?_; (first | omega | (dsimp only; omega) | (simp; done) | (simp; omega))) | with_reducible refine Ext.tr ?_ (by with_reducible assumption)))⟩
              | true =>
                go_wp2_with (first
  | (go_at_call 53; (with_reducible refine (K1.out _).mono ?_); rintro e w1 ⟨rfl, hx1⟩; have b1 : Blk w1 wr.heap.size 48 #[.int .i64 li, .int .i64 lp, .int .i64 lq, .int .i64 lsh] := Ext.blk hx1 (BlkDN (BlkN rfl)); have d1 : w1.cell? ⟨wr.heap.size, 1, none⟩ = some (.int .i64 lp) := b1.cell 1)
  | (go_at_call 53; (with_reducible refine (K2.out _).mono ?_); rintro e w2 ⟨rfl, hx2⟩; have b2 := Ext.blk hx2 b1; have d2 : w2.cell? ⟨wr.heap.size, 2, none⟩ = some (.int .i64 lq) := b2.cell 2)
  | (go_at_call 53; (with_reducible refine (K3.out _).mono ?_); rintro e w3 ⟨rfl, hx3⟩; have b3 := Ext.blk hx3 b2; have d3 : w3.cell? ⟨wr.heap.size, 3, none⟩ = some (.int .i64 lsh) := b3.cell 3; have d32 : w3.cell? ⟨wr.heap.size, 2, none⟩ = some (.int .i64 lq) := b3.cell 2)
  | (go_at_call 53; (with_reducible refine (K4.out _).mono ?_); rintro e w4 ⟨rfl, hx4⟩))
                refine And.intro ?_ ?_
                exact ⟨k + 1, by go_num, by have := HN.out; omega, by rw [Hs2.out, HL.out]; first | (have := wi_iff.1 HB1.out.symm; simp; omega) | (have := Hp.out; simp; omega), (by repeat (first | with_reducible exact Below.refl _ _ | with_reducible assumption | with_reducible refine ExtD ?_ | with_reducible refine ExtDN ?_ | with_reducible refine ExtA ?_ | (with_reducible refine ExtR ?_ ?_; (first | omega | (dsimp only; omega) | (simp; done) | (simp; omega))) | (with_reducible refine ExtS ?_ ?_; (first | omega | (dsimp only; omega) | (simp; done) | (simp; omega))) | with_reducible refine Ext.tr ?_ (by with_reducible assumption)))⟩
                simp [intOf]; omega
      · obtain ⟨j, rfl⟩ : ∃ j, k = j + 1 := ⟨k - 1, by omega⟩
        obtain ⟨b', o', hA, hc'⟩ := ls_at hr (show j < ls.length by rw [← HN.out]; omega)
        cases hA
        have Hlast := Lib.hid (last_take (ls := ls) (j := j) (show j < ls.length by rw [← HN.out]; omega))
        have f0 := (range_ext hc' hx) 0 _ rfl
        dsimp only [Nat.add_zero] at f0
        generalize (ls[j]'(by rw [← HN.out]; omega)).item = pj at *
        have Hs2 : Hid (risesB (-1) (ls.take (j + 1 + 1)) = (decide (pj < li) && lnB ⟨li, lp, lq, lsh⟩)) := Lib.hid (by rw [Hs1.out, Hlast.out])
        clear hc' h0
        have f1 : ∀ ob, (wr.alloc ob).cell? ⟨b, o + j * 4, none⟩ = some (.int .i64 pj) := fun ob => Ext.cell (ExtA (Ext.rfl' wr)) f0
        have hjn : j < n := by omega
        have hwj : IntKind.i64.wrap (j : Int) = (j : Int) := by rw [IntKind.wrap_i64]; omega
        have hjn2 : (j : Int) < (n : Int) := by omega
        by_cases hp : li ≤ pj
        · have Hp := Lib.hid hp
          go_wp2_with fail
          go_quiet (fail)
          go_wp2_with fail
          go_ret
          exact ⟨by rw [lined_bad (k := j + 1 + 1) (by rw [Hs2.out]; have := Hp.out; simp; omega)]; rfl, (by repeat (first | with_reducible exact Below.refl _ _ | with_reducible assumption | with_reducible refine ExtD ?_ | with_reducible refine ExtDN ?_ | with_reducible refine ExtA ?_ | (with_reducible refine ExtR ?_ ?_; (first | omega | (dsimp only; omega) | (simp; done) | (simp; omega))) | (with_reducible refine ExtS ?_ ?_; (first | omega | (dsimp only; omega) | (simp; done) | (simp; omega))) | with_reducible refine Ext.tr ?_ (by with_reducible assumption)))⟩
        · have Hp := Lib.hid hp
          go_wp2_with fail
          go_quiet (fail)
          cases B1 with
          | false =>
            go_wp2_with (first
  | (go_at_call 53; (with_reducible refine (K1.out _).mono ?_); rintro e w1 ⟨rfl, hx1⟩; have b1 : Blk w1 wr.heap.size 48 #[.int .i64 li, .int .i64 lp, .int .i64 lq, .int .i64 lsh] := Ext.blk hx1 (BlkDN (BlkN rfl)); have d1 : w1.cell? ⟨wr.heap.size, 1, none⟩ = some (.int .i64 lp) := b1.cell 1)
  | (go_at_call 53; (with_reducible refine (K2.out _).mono ?_); rintro e w2 ⟨rfl, hx2⟩; have b2 := Ext.blk hx2 b1; have d2 : w2.cell? ⟨wr.heap.size, 2, none⟩ = some (.int .i64 lq) := b2.cell 2)
  | (go_at_call 53; (with_reducible refine (K3.out _).mono ?_); rintro e w3 ⟨rfl, hx3⟩; have b3 := Ext.blk hx3 b2; have d3 : w3.cell? ⟨wr.heap.size, 3, none⟩ = some (.int .i64 lsh) := b3.cell 3; have d32 : w3.cell? ⟨wr.heap.size, 2, none⟩ = some (.int .i64 lq) := b3.cell 2)
  | (go_at_call 53; (with_reducible refine (K4.out _).mono ?_); rintro e w4 ⟨rfl, hx4⟩))
            go_ret
            exact ⟨by rw [lined_bad (k := j + 1 + 1) (by rw [Hs2.out, HL.out]; simp)]; rfl, (by repeat (first | with_reducible exact Below.refl _ _ | with_reducible assumption | with_reducible refine ExtD ?_ | with_reducible refine ExtDN ?_ | with_reducible refine ExtA ?_ | (with_reducible refine ExtR ?_ ?_; (first | omega | (dsimp only; omega) | (simp; done) | (simp; omega))) | (with_reducible refine ExtS ?_ ?_; (first | omega | (dsimp only; omega) | (simp; done) | (simp; omega))) | with_reducible refine Ext.tr ?_ (by with_reducible assumption)))⟩
          | true =>
            cases B2 with
            | false =>
              go_wp2_with (first
  | (go_at_call 53; (with_reducible refine (K1.out _).mono ?_); rintro e w1 ⟨rfl, hx1⟩; have b1 : Blk w1 wr.heap.size 48 #[.int .i64 li, .int .i64 lp, .int .i64 lq, .int .i64 lsh] := Ext.blk hx1 (BlkDN (BlkN rfl)); have d1 : w1.cell? ⟨wr.heap.size, 1, none⟩ = some (.int .i64 lp) := b1.cell 1)
  | (go_at_call 53; (with_reducible refine (K2.out _).mono ?_); rintro e w2 ⟨rfl, hx2⟩; have b2 := Ext.blk hx2 b1; have d2 : w2.cell? ⟨wr.heap.size, 2, none⟩ = some (.int .i64 lq) := b2.cell 2)
  | (go_at_call 53; (with_reducible refine (K3.out _).mono ?_); rintro e w3 ⟨rfl, hx3⟩; have b3 := Ext.blk hx3 b2; have d3 : w3.cell? ⟨wr.heap.size, 3, none⟩ = some (.int .i64 lsh) := b3.cell 3; have d32 : w3.cell? ⟨wr.heap.size, 2, none⟩ = some (.int .i64 lq) := b3.cell 2)
  | (go_at_call 53; (with_reducible refine (K4.out _).mono ?_); rintro e w4 ⟨rfl, hx4⟩))
              go_ret
              exact ⟨by rw [lined_bad (k := j + 1 + 1) (by rw [Hs2.out, HL.out]; simp)]; rfl, (by repeat (first | with_reducible exact Below.refl _ _ | with_reducible assumption | with_reducible refine ExtD ?_ | with_reducible refine ExtDN ?_ | with_reducible refine ExtA ?_ | (with_reducible refine ExtR ?_ ?_; (first | omega | (dsimp only; omega) | (simp; done) | (simp; omega))) | (with_reducible refine ExtS ?_ ?_; (first | omega | (dsimp only; omega) | (simp; done) | (simp; omega))) | with_reducible refine Ext.tr ?_ (by with_reducible assumption)))⟩
            | true =>
              cases B3 with
              | false =>
                go_wp2_with (first
  | (go_at_call 53; (with_reducible refine (K1.out _).mono ?_); rintro e w1 ⟨rfl, hx1⟩; have b1 : Blk w1 wr.heap.size 48 #[.int .i64 li, .int .i64 lp, .int .i64 lq, .int .i64 lsh] := Ext.blk hx1 (BlkDN (BlkN rfl)); have d1 : w1.cell? ⟨wr.heap.size, 1, none⟩ = some (.int .i64 lp) := b1.cell 1)
  | (go_at_call 53; (with_reducible refine (K2.out _).mono ?_); rintro e w2 ⟨rfl, hx2⟩; have b2 := Ext.blk hx2 b1; have d2 : w2.cell? ⟨wr.heap.size, 2, none⟩ = some (.int .i64 lq) := b2.cell 2)
  | (go_at_call 53; (with_reducible refine (K3.out _).mono ?_); rintro e w3 ⟨rfl, hx3⟩; have b3 := Ext.blk hx3 b2; have d3 : w3.cell? ⟨wr.heap.size, 3, none⟩ = some (.int .i64 lsh) := b3.cell 3; have d32 : w3.cell? ⟨wr.heap.size, 2, none⟩ = some (.int .i64 lq) := b3.cell 2)
  | (go_at_call 53; (with_reducible refine (K4.out _).mono ?_); rintro e w4 ⟨rfl, hx4⟩))
                go_ret
                exact ⟨by rw [lined_bad (k := j + 1 + 1) (by rw [Hs2.out, HL.out]; simp)]; rfl, (by repeat (first | with_reducible exact Below.refl _ _ | with_reducible assumption | with_reducible refine ExtD ?_ | with_reducible refine ExtDN ?_ | with_reducible refine ExtA ?_ | (with_reducible refine ExtR ?_ ?_; (first | omega | (dsimp only; omega) | (simp; done) | (simp; omega))) | (with_reducible refine ExtS ?_ ?_; (first | omega | (dsimp only; omega) | (simp; done) | (simp; omega))) | with_reducible refine Ext.tr ?_ (by with_reducible assumption)))⟩
              | true =>
                cases B4 with
                | false =>
                  go_wp2_with (first
  | (go_at_call 53; (with_reducible refine (K1.out _).mono ?_); rintro e w1 ⟨rfl, hx1⟩; have b1 : Blk w1 wr.heap.size 48 #[.int .i64 li, .int .i64 lp, .int .i64 lq, .int .i64 lsh] := Ext.blk hx1 (BlkDN (BlkN rfl)); have d1 : w1.cell? ⟨wr.heap.size, 1, none⟩ = some (.int .i64 lp) := b1.cell 1)
  | (go_at_call 53; (with_reducible refine (K2.out _).mono ?_); rintro e w2 ⟨rfl, hx2⟩; have b2 := Ext.blk hx2 b1; have d2 : w2.cell? ⟨wr.heap.size, 2, none⟩ = some (.int .i64 lq) := b2.cell 2)
  | (go_at_call 53; (with_reducible refine (K3.out _).mono ?_); rintro e w3 ⟨rfl, hx3⟩; have b3 := Ext.blk hx3 b2; have d3 : w3.cell? ⟨wr.heap.size, 3, none⟩ = some (.int .i64 lsh) := b3.cell 3; have d32 : w3.cell? ⟨wr.heap.size, 2, none⟩ = some (.int .i64 lq) := b3.cell 2)
  | (go_at_call 53; (with_reducible refine (K4.out _).mono ?_); rintro e w4 ⟨rfl, hx4⟩))
                  go_ret
                  exact ⟨by rw [lined_bad (k := j + 1 + 1) (by rw [Hs2.out, HL.out]; simp)]; rfl, (by repeat (first | with_reducible exact Below.refl _ _ | with_reducible assumption | with_reducible refine ExtD ?_ | with_reducible refine ExtDN ?_ | with_reducible refine ExtA ?_ | (with_reducible refine ExtR ?_ ?_; (first | omega | (dsimp only; omega) | (simp; done) | (simp; omega))) | (with_reducible refine ExtS ?_ ?_; (first | omega | (dsimp only; omega) | (simp; done) | (simp; omega))) | with_reducible refine Ext.tr ?_ (by with_reducible assumption)))⟩
                | true =>
                  go_wp2_with (first
  | (go_at_call 53; (with_reducible refine (K1.out _).mono ?_); rintro e w1 ⟨rfl, hx1⟩; have b1 : Blk w1 wr.heap.size 48 #[.int .i64 li, .int .i64 lp, .int .i64 lq, .int .i64 lsh] := Ext.blk hx1 (BlkDN (BlkN rfl)); have d1 : w1.cell? ⟨wr.heap.size, 1, none⟩ = some (.int .i64 lp) := b1.cell 1)
  | (go_at_call 53; (with_reducible refine (K2.out _).mono ?_); rintro e w2 ⟨rfl, hx2⟩; have b2 := Ext.blk hx2 b1; have d2 : w2.cell? ⟨wr.heap.size, 2, none⟩ = some (.int .i64 lq) := b2.cell 2)
  | (go_at_call 53; (with_reducible refine (K3.out _).mono ?_); rintro e w3 ⟨rfl, hx3⟩; have b3 := Ext.blk hx3 b2; have d3 : w3.cell? ⟨wr.heap.size, 3, none⟩ = some (.int .i64 lsh) := b3.cell 3; have d32 : w3.cell? ⟨wr.heap.size, 2, none⟩ = some (.int .i64 lq) := b3.cell 2)
  | (go_at_call 53; (with_reducible refine (K4.out _).mono ?_); rintro e w4 ⟨rfl, hx4⟩))
                  refine And.intro ?_ ?_
                  exact ⟨j + 1 + 1, by go_num, by have := HN.out; omega, by rw [Hs2.out, HL.out]; first | (have := wi_iff.1 HB1.out.symm; simp; omega) | (have := Hp.out; simp; omega), (by repeat (first | with_reducible exact Below.refl _ _ | with_reducible assumption | with_reducible refine ExtD ?_ | with_reducible refine ExtDN ?_ | with_reducible refine ExtA ?_ | (with_reducible refine ExtR ?_ ?_; (first | omega | (dsimp only; omega) | (simp; done) | (simp; omega))) | (with_reducible refine ExtS ?_ ?_; (first | omega | (dsimp only; omega) | (simp; done) | (simp; omega))) | with_reducible refine Ext.tr ?_ (by with_reducible assumption)))⟩
                  simp [intOf]; omega
    · obtain rfl : k = n := by omega
      have htk : ls.take k = ls := List.take_of_length_le (by have := HN.out; omega)
      rw [htk] at Hrs
      go_wp2_with fail
      go_ret
      exact ⟨by rw [Hv.out, Hrs.out]; rfl, (by repeat (first | with_reducible exact Below.refl _ _ | with_reducible assumption | with_reducible refine ExtD ?_ | with_reducible refine ExtDN ?_ | with_reducible refine ExtA ?_ | (with_reducible refine ExtR ?_ ?_; (first | omega | (dsimp only; omega) | (simp; done) | (simp; omega))) | (with_reducible refine ExtS ?_ ?_; (first | omega | (dsimp only; omega) | (simp; done) | (simp; omega))) | with_reducible refine Ext.tr ?_ (by with_reducible assumption)))⟩
end Go.Proofs.Ytlpjhnecihhkfaa
