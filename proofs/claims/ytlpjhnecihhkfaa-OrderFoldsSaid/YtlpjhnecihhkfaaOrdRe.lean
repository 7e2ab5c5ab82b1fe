/-
  The walks of the reference's Use and At.
-/
import Derived.Test.YtlpjhnecihhkfaaOrdRa
import Derived.Test.YtlpjhnecihhkfaaOrdB
import Derived.Test.YtlpjhnecihhkfaaOrdRc5
import Derived.Test.YtlpjhnecihhkfaaHand
namespace Go.Proofs.Ytlpjhnecihhkfaa
open Go.RowKit
set_option linter.unusedVariables false
set_option linter.unusedSimpArgs false
theorem beq_decR (x y : Int) : (x == y) = decide (x = y) := by rw [Bool.eq_iff_iff]; simp
set_option maxRecDepth 100000 in
set_option maxHeartbeats 4000000 in
theorem ruse_any (s : St) (k : Int) (A : Option Addr) (c : Nat) (w : World) (hr : LsRd w A s.lines) (hl : ∀ l ∈ s.lines, 0 ≤ l.shipped) (hn : s.lines.length ≤ 4611686018427387904) :
    Calls Try.prog 17 #[.agg (stcells s A c), .int .i64 k] w fun e w' => e = .returned (.bool (useB s k)) ∧ Ext w w' := by
  have KU := Lib.hid fun W (h : LsRd W A s.lines) => untouched_any s A c W h hl hn
  have hv0 : useB s k = useB s k := rfl
  conv at hv0 => rhs; unfold useB
  have Hv := Lib.hid hv0
  clear hv0
  generalize noneB s.lines = N at *
  generalize useB s k = R at *
  obtain ⟨order, status, prior, cur, tax, ls, paid, refunded, events, refused, stamp, who⟩ := s
  unfold stcells at *
  dsimp only at *
  generalize ls.length = n at *
  have hcs : status = 1 ∨ status = 2 ∨ status = 3 ∨ (status ≠ 1 ∧ status ≠ 2 ∧ status ≠ 3) := by omega
  rcases hcs with rfl | rfl | rfl | ⟨hs1, hs2, hs3⟩
  iterate 3
    · go_enter Try.func17, Try.ntmps17
      go_wp2_with (go_at_call 33; (with_reducible refine (KU.out _ (hr.ext exA)).mono ?_); rintro e w1 ⟨rfl, hx1⟩)
      all_goals
        go_ret
        refine ⟨?_, exA⟩
        rw [Hv.out]
        clear KU
        first | (simp only [beq_iff_eq, beq_eq_false_iff_ne, ne_eq] at *) | skip
        first | rfl | (simp [*, beq_decR]; done) | (simp [*, beq_decR]; omega) | (simp [*, beq_decR]; rw [Bool.eq_iff_iff]; simp; omega)
  · have s1 : (status == 1) = false := by simp; exact hs1
    have s2 : (status == 2) = false := by simp; exact hs2
    have s3 : (status == 3) = false := by simp; exact hs3
    go_enter Try.func17, Try.ntmps17
    go_wp2_with (go_at_call 33; (with_reducible refine (KU.out _ (hr.ext exA)).mono ?_); rintro e w1 ⟨rfl, hx1⟩)
    all_goals
      go_ret
      refine ⟨?_, exA⟩
      rw [Hv.out]
      clear KU
      first | (simp only [beq_iff_eq, beq_eq_false_iff_ne, ne_eq] at *) | skip
      first | rfl | (simp [*, beq_decR]; done) | (simp [*, beq_decR]; omega) | (simp [*, beq_decR]; rw [Bool.eq_iff_iff]; simp; omega)
theorem there_take {item : Int} {ls : List Ln} {k : Nat} (h : k < ls.length) : thereB item (ls.take (k + 1)) = (thereB item (ls.take k) || decide (ls[k].item = item)) := by
  unfold thereB
  rw [List.take_succ_eq_append_getElem h, List.any_append]
  simp
theorem pos_at {item : Int} {ls : List Ln} {k : Nat} (hb : risesB (-1) ls = true) (h : k < ls.length) (he : ls[k].item = item) : thereB item ls = true ∧ posOf item ls = k := by
  refine ⟨List.any_eq_true.2 ⟨ls[k], List.getElem_mem h, by simpa using he⟩, pos_uniq (by omega) (fun m hm => ?_) (fun _ => by omega)⟩
  have := rises_mono hb h hm
  omega
/-- An item's place as the reference tells it. -/
def atI (item : Int) (ls : List Ln) : Int := if thereB item ls then (posOf item ls : Int) else -1
theorem atI_yes {item : Int} {ls : List Ln} (h : thereB item ls = true) : atI item ls = (posOf item ls : Int) := by unfold atI; rw [if_pos h]
theorem atI_not {item : Int} {ls : List Ln} (h : thereB item ls = false) : atI item ls = -1 := by unfold atI; rw [if_neg (by simp [h])]
def AtR (W : World) (ls : List Ln) (item : Int) (c9 : Value) (wr : World) : Prop := ∃ k : Nat, c9 = .int .i64 (k : Nat) ∧ k ≤ ls.length ∧ thereB item (ls.take k) = false ∧ Ext W wr
set_option maxRecDepth 100000 in
set_option maxHeartbeats 2000000 in
theorem rat_any (s : St) (item : Int) (A : Option Addr) (c : Nat) (w : World) (hr : LsRd w A s.lines) (hb : risesB (-1) s.lines = true) (hn : s.lines.length ≤ 4611686018427387904) :
    Calls Try.prog 45 #[.agg (stcells s A c), .int .i64 item] w fun e w' => e = .returned (.int .i64 (atI item s.lines)) ∧ Ext w w' := by
  obtain ⟨n, hnn⟩ : ∃ n, n = s.lines.length := ⟨_, rfl⟩
  unfold stcells
  rw [← hnn] at hn ⊢
  have HN := Lib.hid hnn
  clear hnn
  go_enter Try.func45, Try.ntmps45
  go_wp2_with fail
  go_loopw [9] (fun c9 wr => AtR (w.alloc (.cells #[.int .i64 s.order, .int .i64 s.status, .int .i64 s.prior, .int .i64 s.cur, .int .i64 s.tax, .slice A n c, .int .i64 s.paid, .int .i64 s.refunded, .int .i64 s.events, .int .i64 s.refused, .int .i64 s.stamp, .string s.who] 25)) s.lines item c9 wr) (fun c9 _ => n - (intOf c9).toNat)
  case atStart => exact ⟨0, rfl, by omega, rfl, Below.refl _ _⟩
  case round =>
    obtain ⟨k, rfl, hk, hv, hx⟩ := hrel
    rw [← HN.out] at hk
    have Hv := Lib.hid hv
    clear hv
    by_cases hlt : k < n
    · skip
      obtain ⟨b, o, rfl, hc⟩ := ls_at hr (show k < s.lines.length by rw [← HN.out]; exact hlt)
      have hx0 : Ext w wr := Ext.tr (ExtA (Ext.rfl' w)) hx
      have Hc := Lib.hid (range_ext hc hx0)
      have a5 : wr.cell? ⟨w.heap.size, 5, none⟩ = some (.slice (some ⟨b, o, none⟩) n c) := (Ext.blk hx (BlkN rfl)).cell 5
      have hkn : (k : Int) < (n : Int) := by omega
      have hk0 : (0 : Int) ≤ (k : Int) := by omega
      have Hs := Lib.hid (there_take (item := item) (ls := s.lines) (k := k) (show k < s.lines.length by rw [← HN.out]; exact hlt))
      have Hp := Lib.hid (pos_at (item := item) hb (show k < s.lines.length by rw [← HN.out]; exact hlt))
      clear hc
      generalize s.lines[k]'(by rw [← HN.out]; exact hlt) = l at *
      obtain ⟨li, lp, lq, lsh⟩ := l
      unfold lncells at Hc
      dsimp only at *
      have e0 : wr.cell? ⟨b, o + k * 4, none⟩ = some (.int .i64 li) := Hc.out 0 _ rfl
      have e1 : wr.cell? ⟨b, o + k * 4 + 1, none⟩ = some (.int .i64 lp) := Hc.out 1 _ rfl
      have e2 : wr.cell? ⟨b, o + k * 4 + 2, none⟩ = some (.int .i64 lq) := Hc.out 2 _ rfl
      have e3 : wr.cell? ⟨b, o + k * 4 + 3, none⟩ = some (.int .i64 lsh) := Hc.out 3 _ rfl
      by_cases hz : li = item
      · have hz1 : (li == item) = true := by simp; exact hz
        have Hz := Lib.hid hz
        clear hz
        go_wp2_with fail
        all_goals try go_region
        all_goals (go_wp2_with fail)
        go_ret
        exact ⟨by rw [atI_yes (Hp.out Hz.out).1, (Hp.out Hz.out).2]; rfl, Ext.tr (ExtA (Ext.rfl' w)) exA⟩
      · have hz1 : (li == item) = false := by simp; exact hz
        have Hz := Lib.hid hz
        clear hz
        go_wp2_with fail
        all_goals try go_region
        all_goals (go_wp2_with fail)
        refine And.intro ?_ ?_
        · exact ⟨k + 1, by go_num, by have := HN.out; omega, by rw [Hs.out, Hv.out]; simp; exact Hz.out, exA⟩
        · simp [intOf]; omega
    · obtain rfl : k = n := by omega
      have htk : s.lines.take k = s.lines := List.take_of_length_le (by have := HN.out; omega)
      rw [htk] at Hv
      go_wp2_with fail
      go_ret
      exact ⟨by rw [atI_not Hv.out]; rfl, Ext.tr (ExtA (Ext.rfl' w)) exA⟩
theorem rcheck5_any (e : Ev) (w : World) (hw : e.who.size ≤ 4611686018427387904) (hw2 : e.note.size ≤ 4611686018427387904) :
    Calls Try.prog 19 #[.int .i64 5, .agg (evcells e)] w fun e' w' => ∃ r : Int, e' = .returned (.int .i64 r) ∧ (r = 0 ↔ check5 e = 0) ∧ Ext w w' := by
  refine (rcheck5 e w hw hw2).mono ?_
  rintro e' w' ⟨r, he, hr, hx⟩
  exact ⟨r, he, hr.trans rok5, hx⟩
end Go.Proofs.Ytlpjhnecihhkfaa
