/-
  The walks of order.due, within, lined, shipped.
-/
import Derived.Test.YtlpjhnecihhkfaaOrdW
namespace Go.Proofs.Ytlpjhnecihhkfaa
open Go.RowKit
set_option linter.unusedVariables false
set_option linter.unusedSimpArgs false
theorem md_tax {n t : Int} (h0 : 0 ≤ n) (h1 : n ≤ 160000000000000) (t0 : 0 ≤ t) (t1 : t ≤ 5000) : mdV n t 10000 = taxOf n t := by
  have hq : mdQ n t 10000 = taxOf n t := by
    unfold mdQ taxOf
    have e1 : decide (n < 0) = false := by simp; omega
    have e2 : decide (t < 0) = false := by simp; omega
    have e3 : decide ((10000 : Int) < 0) = false := by decide
    rw [e1, e2, e3]
    obtain ⟨a, rfl⟩ := Int.eq_ofNat_of_zero_le h0
    obtain ⟨b, rfl⟩ := Int.eq_ofNat_of_zero_le t0
    simp [sg, absN]
  have hb := tax_bound h0 t0 t1
  unfold mdV mdF
  rw [hq, if_neg (show ¬ (10000 : Int) = 0 by omega)]
  rw [if_pos (by unfold fits64; simp; omega)]
theorem lines_net {s : St} (hl : ∀ l ∈ s.lines, lnB l = true) (hn : s.lines.length ≤ 16) : 0 ≤ net s.lines ∧ net s.lines ≤ 160000000000000 := by
  have := net_bound hl
  omega
set_option maxRecDepth 100000 in
set_option maxHeartbeats 2000000 in
theorem due_any (s : St) (A : Option Addr) (c : Nat) (w : World) (hr : LsRd w A s.lines) (hl : ∀ l ∈ s.lines, lnB l = true) (hn : s.lines.length ≤ 16) (ht : 0 ≤ s.tax ∧ s.tax ≤ 5000) :
    Calls Try.prog 40 #[.agg (stcells s A c)] w fun e w' => e = .returned (.int .i64 (due s)) ∧ Ext w w' := by
  have hb := lines_net hl hn
  have htx := tax_bound hb.1 ht.1 ht.2
  have Hd : Hid (due s = net s.lines + taxOf (net s.lines) s.tax) := Lib.hid rfl
  have Kn : Hid (∀ w', Ext w w' → Calls Try.prog 51 #[.agg (stcells s A c)] w' fun e w2 => e = .returned (.int .i64 (net s.lines)) ∧ Ext w' w2) := Lib.hid fun w' hx => net_any s A c w' (hr.ext hx) hl hn
  have Km : Hid (∀ w', Calls Try.prog 52 #[.int .i64 (net s.lines), .int .i64 s.tax, .int .i64 10000] w' fun e w2 => e = .returned (.tuple #[.int .i64 (taxOf (net s.lines) s.tax), .bool (mdF (net s.lines) s.tax 10000)]) ∧ Ext w' w2) := Lib.hid fun w' => by
    have h := muldiv_any (net s.lines) s.tax 10000 w' (by omega) (by omega) (by omega) (by omega) (by omega) (by omega)
    rw [md_tax hb.1 hb.2 ht.1 ht.2] at h
    exact h
  obtain ⟨X, hX⟩ : ∃ X, X = taxOf (net s.lines) s.tax := ⟨_, rfl⟩
  obtain ⟨N, hN⟩ : ∃ N, N = net s.lines := ⟨_, rfl⟩
  obtain ⟨F, hF⟩ : ∃ F, F = mdF (net s.lines) s.tax 10000 := ⟨_, rfl⟩
  rw [← hX] at Hd Km htx
  rw [← hF] at Km
  rw [← hN] at Hd Km Kn hb htx
  clear hX hN hF
  unfold stcells at Kn ⊢
  go_enter Try.func40, Try.ntmps40
  go_wp2_with (first
    | (go_at_call 51; go_must (with_reducible refine (Kn.out _ (ExtA (Ext.rfl' w))).mono ?_); rintro e w1 ⟨rfl, hx1⟩; have e4 : w1.cell? ⟨w.heap.size, 4, none⟩ = some (.int .i64 s.tax) := (Ext.blk hx1 (BlkN rfl)).cell 4)
    | (go_at_call 52; go_must (with_reducible refine (Km.out _).mono ?_); rintro e w2 ⟨rfl, hx2⟩))
  go_ret
  exact ⟨by rw [Hd.out]; go_num, (by repeat (first | with_reducible exact Below.refl _ _ | with_reducible assumption | with_reducible refine ExtD ?_ | with_reducible refine ExtDN ?_ | with_reducible refine ExtA ?_ | (with_reducible refine ExtR ?_ ?_; (first | omega | (dsimp only; omega) | (simp; done) | (simp; omega))) | (with_reducible refine ExtS ?_ ?_; (first | omega | (dsimp only; omega) | (simp; done) | (simp; omega))) | with_reducible refine Ext.tr ?_ (by with_reducible assumption)))⟩
theorem within_any (x lo hi : Int) (w : World) : Calls Try.prog 53 #[.int .i64 x, .int .i64 lo, .int .i64 hi] w fun e w' => e = .returned (.bool (wi x lo hi)) ∧ Ext w w' := by
  have Hv : Hid (wi x lo hi = decide (lo ≤ x ∧ x ≤ hi)) := Lib.hid rfl
  by_cases h1 : lo ≤ x
  · go_enter Try.func53, Try.ntmps53
    go_wp2_with fail
    go_ret
    exact ⟨by rw [Hv.out]; simp [h1], (by repeat (first | with_reducible exact Below.refl _ _ | with_reducible assumption | with_reducible refine ExtD ?_ | with_reducible refine ExtDN ?_ | with_reducible refine ExtA ?_ | (with_reducible refine ExtR ?_ ?_; (first | omega | (dsimp only; omega) | (simp; done) | (simp; omega))) | (with_reducible refine ExtS ?_ ?_; (first | omega | (dsimp only; omega) | (simp; done) | (simp; omega))) | with_reducible refine Ext.tr ?_ (by with_reducible assumption)))⟩
  · go_enter Try.func53, Try.ntmps53
    go_wp2_with fail
    go_ret
    exact ⟨by rw [Hv.out]; simp; omega, (by repeat (first | with_reducible exact Below.refl _ _ | with_reducible assumption | with_reducible refine ExtD ?_ | with_reducible refine ExtDN ?_ | with_reducible refine ExtA ?_ | (with_reducible refine ExtR ?_ ?_; (first | omega | (dsimp only; omega) | (simp; done) | (simp; omega))) | (with_reducible refine ExtS ?_ ?_; (first | omega | (dsimp only; omega) | (simp; done) | (simp; omega))) | with_reducible refine Ext.tr ?_ (by with_reducible assumption)))⟩
def ShR (W : World) (ls : List Ln) (c2 c3 c9 : Value) (wr : World) : Prop :=
  ∃ (k : Nat) (a b : Bool), c2 = .bool a ∧ c3 = .bool b ∧ c9 = .int .i64 (k : Nat) ∧ k ≤ ls.length ∧ a = noneB (ls.take k) ∧ b = allB (ls.take k) ∧ Ext W wr
theorem noneB_take {ls : List Ln} {k : Nat} (hk : k < ls.length) : noneB (ls.take (k + 1)) = (noneB (ls.take k) && decide (ls[k].shipped = 0)) := by
  rw [List.take_succ_eq_append_getElem hk]; simp only [noneB, List.all_append, List.all_cons, List.all_nil, Bool.and_true]
theorem allB_take {ls : List Ln} {k : Nat} (hk : k < ls.length) : allB (ls.take (k + 1)) = (allB (ls.take k) && decide (ls[k].shipped = ls[k].qty)) := by
  rw [List.take_succ_eq_append_getElem hk]; simp only [allB, List.all_append, List.all_cons, List.all_nil, Bool.and_true]
set_option maxRecDepth 100000 in
set_option maxHeartbeats 2000000 in
theorem shipped_any (s : St) (A : Option Addr) (c : Nat) (w : World) (hr : LsRd w A s.lines) (hn : s.lines.length ≤ 4611686018427387904) :
    Calls Try.prog 42 #[.agg (stcells s A c)] w fun e w' => e = .returned (.tuple #[.bool (noneB s.lines), .bool (allB s.lines)]) ∧ Ext w w' := by
  obtain ⟨n, hnn⟩ : ∃ n, n = s.lines.length := ⟨_, rfl⟩
  unfold stcells
  rw [← hnn] at hn ⊢
  have HN := Lib.hid hnn
  clear hnn
  go_enter Try.func42, Try.ntmps42
  go_wp2_with fail
  go_loopw [2, 3, 9] (fun c2 c3 c9 wr => ShR w s.lines c2 c3 c9 wr) (fun _ _ c9 _ => n - (intOf c9).toNat)
  case atStart => exact ⟨0, true, true, rfl, rfl, rfl, by omega, rfl, rfl, (by repeat (first | with_reducible exact Below.refl _ _ | with_reducible assumption | with_reducible refine ExtD ?_ | with_reducible refine ExtDN ?_ | with_reducible refine ExtA ?_ | (with_reducible refine ExtR ?_ ?_; (first | omega | (dsimp only; omega) | (simp; done) | (simp; omega))) | (with_reducible refine ExtS ?_ ?_; (first | omega | (dsimp only; omega) | (simp; done) | (simp; omega))) | with_reducible refine Ext.tr ?_ (by with_reducible assumption)))⟩
  case round =>
    obtain ⟨k, a, bb, rfl, rfl, rfl, hk, ha, hb, hx⟩ := hrel
    rw [← HN.out] at hk
    have Ha := Lib.hid ha
    have Hb := Lib.hid hb
    clear ha hb
    by_cases hlt : k < n
    · obtain ⟨b, o, rfl, hc⟩ := ls_at hr (show k < s.lines.length by rw [← HN.out]; exact hlt)
      have Hc := Lib.hid (range_ext hc hx)
      have hal := alloc_ln
      have Hs1 := Lib.hid (noneB_take (ls := s.lines) (k := k) (show k < s.lines.length by rw [← HN.out]; exact hlt))
      have Hs2 := Lib.hid (allB_take (ls := s.lines) (k := k) (show k < s.lines.length by rw [← HN.out]; exact hlt))
      clear hc
      generalize s.lines[k]'(by rw [← HN.out]; exact hlt) = l at *
      obtain ⟨li, lp, lq, lsh⟩ := l
      unfold lncells at Hc hal
      dsimp only at Hc hal
      have e0 : wr.cell? ⟨b, o + k * 4, none⟩ = some (.int .i64 li) := Hc.out 0 _ rfl
      have e1 : wr.cell? ⟨b, o + k * 4 + 1, none⟩ = some (.int .i64 lp) := Hc.out 1 _ rfl
      have e2 : wr.cell? ⟨b, o + k * 4 + 2, none⟩ = some (.int .i64 lq) := Hc.out 2 _ rfl
      have e3 : wr.cell? ⟨b, o + k * 4 + 3, none⟩ = some (.int .i64 lsh) := Hc.out 3 _ rfl
      cases a <;> cases bb
      all_goals
        go_wp2_with fail
        refine And.intro ?_ ?_
        exact ⟨k + 1, _, _, rfl, rfl, by go_num, by have := HN.out; omega, by rw [Hs1.out, ← Ha.out]; simp [Bool.beq_eq_decide_eq], by rw [Hs2.out, ← Hb.out]; simp [Bool.beq_eq_decide_eq], (by repeat (first | with_reducible exact Below.refl _ _ | with_reducible assumption | with_reducible refine ExtD ?_ | with_reducible refine ExtDN ?_ | with_reducible refine ExtA ?_ | (with_reducible refine ExtR ?_ ?_; (first | omega | (dsimp only; omega) | (simp; done) | (simp; omega))) | (with_reducible refine ExtS ?_ ?_; (first | omega | (dsimp only; omega) | (simp; done) | (simp; omega))) | with_reducible refine Ext.tr ?_ (by with_reducible assumption)))⟩
        simp [intOf]; omega
    · obtain rfl : k = n := by omega
      have htk : s.lines.take k = s.lines := List.take_of_length_le (by have := HN.out; omega)
      rw [htk] at Ha Hb
      go_wp2_with fail
      go_ret2
      exact ⟨by rw [Ha.out, Hb.out]; rfl, (by repeat (first | with_reducible exact Below.refl _ _ | with_reducible assumption | with_reducible refine ExtD ?_ | with_reducible refine ExtDN ?_ | with_reducible refine ExtA ?_ | (with_reducible refine ExtR ?_ ?_; (first | omega | (dsimp only; omega) | (simp; done) | (simp; omega))) | (with_reducible refine ExtS ?_ ?_; (first | omega | (dsimp only; omega) | (simp; done) | (simp; omega))) | with_reducible refine Ext.tr ?_ (by with_reducible assumption)))⟩
end Go.Proofs.Ytlpjhnecihhkfaa
