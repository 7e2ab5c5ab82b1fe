/-
  The walk of the reference's Lines.
-/
import Derived.Test.YtlpjhnecihhkfaaOrdRa
import Derived.Test.YtlpjhnecihhkfaaOrdW
import Derived.Test.YtlpjhnecihhkfaaOrdVa
namespace Go.Proofs.Ytlpjhnecihhkfaa
open Go.RowKit
set_option linter.unusedVariables false
set_option linter.unusedSimpArgs false
def LiR (W : World) (ls : List Ln) (c3 c13 : Value) (wr : World) : Prop :=
  ∃ k : Nat, c3 = .int .i64 (lastOr (-1) (ls.take k)) ∧ c13 = .int .i64 (k : Nat) ∧ k ≤ ls.length ∧ risesB (-1) (ls.take k) = true ∧ Ext W wr
theorem step_ok {x : Int} {l : Ln} : (decide (x < l.item) && lnB l) = decide (¬ (l.item ≤ x) ∧ ¬ (65535 < l.item) ∧ ¬ (l.price < 0) ∧ ¬ (100000000 < l.price) ∧ ¬ (l.qty < 1) ∧ ¬ (100000 < l.qty) ∧ ¬ (l.shipped < 0) ∧ ¬ (l.qty < l.shipped) ∧ 0 ≤ l.item) := by
  rw [Bool.eq_iff_iff]
  simp only [and_t, lnB_iff, decide_eq_true_eq]
  omega
theorem last_ge {ls : List Ln} (h : risesB (-1) ls = true) : -1 ≤ lastOr (-1) ls := by
  unfold lastOr
  cases hl : ls.getLast? with
  | none => simp
  | some l =>
    have hm := List.mem_of_getLast? hl
    have := (rises_mem h l hm).2
    simp
    omega
set_option maxRecDepth 100000 in
set_option maxHeartbeats 4000000 in
theorem rlines_any (s : St) (A : Option Addr) (c : Nat) (w : World) (hr : LsRd w A s.lines) (hn : s.lines.length ≤ 4611686018427387904) :
    Calls Try.prog 31 #[.agg (stcells s A c)] w fun e w' => e = .returned (.bool (linedB s.lines)) ∧ Ext w w' := by
  obtain ⟨n, hnn⟩ : ∃ n, n = s.lines.length := ⟨_, rfl⟩
  unfold stcells
  rw [← hnn] at hn ⊢
  have HN := Lib.hid hnn
  clear hnn
  by_cases h16 : 16 < n
  · have Hv : Hid (linedB s.lines = false) := Lib.hid (by unfold linedB; rw [← HN.out]; simp; omega)
    go_enter Try.func31, Try.ntmps31
    go_wp2_with fail
    go_ret
    exact ⟨by rw [Hv.out]; rfl, exA⟩
  have Hv : Hid (linedB s.lines = risesB (-1) s.lines) := Lib.hid (by unfold linedB; rw [← HN.out]; simp; omega)
  go_enter Try.func31, Try.ntmps31
  go_wp2_with fail
  go_loopw [3, 13] (fun c3 c13 wr => LiR (w.alloc (.cells #[.int .i64 s.order, .int .i64 s.status, .int .i64 s.prior, .int .i64 s.cur, .int .i64 s.tax, .slice A n c, .int .i64 s.paid, .int .i64 s.refunded, .int .i64 s.events, .int .i64 s.refused, .int .i64 s.stamp, .string s.who] 25)) s.lines c3 c13 wr) (fun _ c13 _ => n - (intOf c13).toNat)
  case atStart => exact ⟨0, rfl, rfl, by omega, rfl, Below.refl _ _⟩
  case round =>
    obtain ⟨k, rfl, rfl, hk, hrs, hx⟩ := hrel
    rw [← HN.out] at hk
    have Hrs := Lib.hid hrs
    have hlg := last_ge hrs
    clear hrs
    by_cases hlt : k < n
    · obtain ⟨b, o, rfl, hc⟩ := ls_at hr (show k < s.lines.length by rw [← HN.out]; exact hlt)
      have hx0 : Ext w wr := Ext.tr (ExtA (Ext.rfl' w)) hx
      have Hc := Lib.hid (range_ext hc hx0)
      have hal := alloc_ln
      have a5 : wr.cell? ⟨w.heap.size, 5, none⟩ = some (.slice (some ⟨b, o, none⟩) n c) := (Ext.blk hx (BlkN rfl)).cell 5
      have Hs1 := Lib.hid (rises_take (ls := s.lines) (k := k) (show k < s.lines.length by rw [← HN.out]; exact hlt))
      have Hlast := Lib.hid (last_take (ls := s.lines) (j := k) (show k < s.lines.length by rw [← HN.out]; exact hlt))
      rw [Hrs.out, Bool.true_and, step_ok] at Hs1
      have Hb := Lib.hid (lined_bad (ls := s.lines) (k := k + 1))
      clear hc
      generalize s.lines[k]'(by rw [← HN.out]; exact hlt) = l at *
      generalize lastOr (-1) (s.lines.take k) = x at *
      obtain ⟨li, lp, lq, lsh⟩ := l
      unfold lncells at Hc hal
      dsimp only at *
      have e0 : wr.cell? ⟨b, o + k * 4, none⟩ = some (.int .i64 li) := Hc.out 0 _ rfl
      have e1 : wr.cell? ⟨b, o + k * 4 + 1, none⟩ = some (.int .i64 lp) := Hc.out 1 _ rfl
      have e2 : wr.cell? ⟨b, o + k * 4 + 2, none⟩ = some (.int .i64 lq) := Hc.out 2 _ rfl
      have e3 : wr.cell? ⟨b, o + k * 4 + 3, none⟩ = some (.int .i64 lsh) := Hc.out 3 _ rfl
      have hkn : (k : Int) < (n : Int) := by omega
      go_wp2_with fail
      all_goals first
        | (go_ret
           exact ⟨by rw [Hb.out (by rw [Hs1.out]; simp only [decide_eq_false_iff_not]; omega)]; rfl, Ext.tr (ExtA (Ext.rfl' w)) exA⟩)
        | (refine And.intro ?_ ?_
           · exact ⟨k + 1, by rw [Hlast.out], by go_num, by have := HN.out; omega, by rw [Hs1.out]; simp only [decide_eq_true_eq]; omega, exA⟩
           · simp [intOf]; omega)
    · obtain rfl : k = n := by omega
      have htk : s.lines.take k = s.lines := List.take_of_length_le (by have := HN.out; omega)
      rw [htk] at Hrs
      go_wp2_with fail
      go_ret
      exact ⟨by rw [Hv.out, Hrs.out]; rfl, Ext.tr (ExtA (Ext.rfl' w)) exA⟩
end Go.Proofs.Ytlpjhnecihhkfaa
