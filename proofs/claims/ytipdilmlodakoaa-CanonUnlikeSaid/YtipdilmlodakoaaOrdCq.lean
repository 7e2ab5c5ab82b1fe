/-
  The walk of the reference's Same at states that differ.
-/
import Derived.Test.YtipdilmlodakoaaOrdCp
namespace Go.Proofs.Ytipdilmlodakoaa
open Go.RowKit
set_option linter.unusedVariables false
set_option linter.unusedSimpArgs false
theorem who_inj {a b : ByteArray} (h : a.toList = b.toList) : a = b := by
  rw [ByteArray.toList_eq, ByteArray.toList_eq] at h
  cases a; cases b; congr 1; exact Array.toList_inj.1 h
theorem neq_ln {a b c d e f g h : Int} (hne : ¬ (a = e ∧ b = f ∧ c = g ∧ d = h)) (w : World) :
    (binOp .neq 37 (.agg #[.int .i64 a, .int .i64 b, .int .i64 c, .int .i64 d]) (.agg #[.int .i64 e, .int .i64 f, .int .i64 g, .int .i64 h])).run Try.prog w = .ok (.bool true) w := by
  rw [run_neq_struct, run_equalIn_agg w 9999 37 _ _ (by kernel_rfl) (by kernel_rfl)]
  simp [Program.fieldsOf, Try.underlying37, Op.eqFields, go_sem]
  by_cases h1 : a = e <;> by_cases h2 : b = f <;> by_cases h3 : c = g <;> by_cases h4 : d = h <;> simp_all
def SnR (W : World) (ls ls2 : List Ln) (n : Nat) (c91 : Value) (wr : World) : Prop := ∃ k : Nat, c91 = .int .i64 (k : Nat) ∧ k ≤ n ∧ Ext W wr ∧ ls.take k = ls2.take k
set_option maxRecDepth 100000 in
set_option maxHeartbeats 16000000 in
theorem ssame_no (s t : St) (A A2 : Option Addr) (c c2 : Nat) (w : World) (hr : LsRd w A s.lines) (hr2 : LsRd w A2 t.lines) (hl : s.lines.length ≤ 4611686018427387904) (hl2 : t.lines.length ≤ 4611686018427387904) (hne : s ≠ t) :
    Calls Try.prog 12 #[.agg (stcells s A c), .agg (stcells t A2 c2)] w fun e w' => e = .returned (.bool false) ∧ Ext w w' := by
  obtain ⟨a1, a2, a3, a4, a5, ls, a6, a7, a8, a9, a10, who⟩ := s
  obtain ⟨b1, b2, b3, b4, b5, ls2, b6, b7, b8, b9, b10, who2⟩ := t
  dsimp only at hr hr2 hl hl2
  by_cases h1 : a1 = b1
  rotate_left 1
  · skip
    have t0 : (a1 != b1) = true := by simpa using h1
    unfold stcells at *
    dsimp only at *
    clear hne h1 hr hr2 hl hl2
    go_enter Try.func12, Try.ntmps12
    go_wp2_with fail
    go_ret
    exact ⟨rfl, (by repeat (first | with_reducible exact Below.refl _ _ | with_reducible assumption | with_reducible refine ExtD ?_ | with_reducible refine ExtDN ?_ | with_reducible refine ExtA ?_ | (with_reducible refine ExtR ?_ ?_; (first | omega | (dsimp only; omega) | (simp; done) | (simp; omega))) | (with_reducible refine ExtS ?_ ?_; (first | omega | (dsimp only; omega) | (simp; done) | (simp; omega))) | with_reducible refine Ext.tr ?_ (by with_reducible assumption)))⟩
  subst h1
  by_cases h2 : a2 = b2
  rotate_left 1
  · skip
    have t0 : (a2 != b2) = true := by simpa using h2
    unfold stcells at *
    dsimp only at *
    clear hne h2 hr hr2 hl hl2
    go_enter Try.func12, Try.ntmps12
    go_wp2_with fail
    go_ret
    exact ⟨rfl, (by repeat (first | with_reducible exact Below.refl _ _ | with_reducible assumption | with_reducible refine ExtD ?_ | with_reducible refine ExtDN ?_ | with_reducible refine ExtA ?_ | (with_reducible refine ExtR ?_ ?_; (first | omega | (dsimp only; omega) | (simp; done) | (simp; omega))) | (with_reducible refine ExtS ?_ ?_; (first | omega | (dsimp only; omega) | (simp; done) | (simp; omega))) | with_reducible refine Ext.tr ?_ (by with_reducible assumption)))⟩
  subst h2
  by_cases h3 : a3 = b3
  rotate_left 1
  · skip
    have t0 : (a3 != b3) = true := by simpa using h3
    unfold stcells at *
    dsimp only at *
    clear hne h3 hr hr2 hl hl2
    go_enter Try.func12, Try.ntmps12
    go_wp2_with fail
    go_ret
    exact ⟨rfl, (by repeat (first | with_reducible exact Below.refl _ _ | with_reducible assumption | with_reducible refine ExtD ?_ | with_reducible refine ExtDN ?_ | with_reducible refine ExtA ?_ | (with_reducible refine ExtR ?_ ?_; (first | omega | (dsimp only; omega) | (simp; done) | (simp; omega))) | (with_reducible refine ExtS ?_ ?_; (first | omega | (dsimp only; omega) | (simp; done) | (simp; omega))) | with_reducible refine Ext.tr ?_ (by with_reducible assumption)))⟩
  subst h3
  by_cases h4 : a4 = b4
  rotate_left 1
  · skip
    have t0 : (a4 != b4) = true := by simpa using h4
    unfold stcells at *
    dsimp only at *
    clear hne h4 hr hr2 hl hl2
    go_enter Try.func12, Try.ntmps12
    go_wp2_with fail
    go_ret
    exact ⟨rfl, (by repeat (first | with_reducible exact Below.refl _ _ | with_reducible assumption | with_reducible refine ExtD ?_ | with_reducible refine ExtDN ?_ | with_reducible refine ExtA ?_ | (with_reducible refine ExtR ?_ ?_; (first | omega | (dsimp only; omega) | (simp; done) | (simp; omega))) | (with_reducible refine ExtS ?_ ?_; (first | omega | (dsimp only; omega) | (simp; done) | (simp; omega))) | with_reducible refine Ext.tr ?_ (by with_reducible assumption)))⟩
  subst h4
  by_cases h5 : a5 = b5
  rotate_left 1
  · skip
    have t0 : (a5 != b5) = true := by simpa using h5
    unfold stcells at *
    dsimp only at *
    clear hne h5 hr hr2 hl hl2
    go_enter Try.func12, Try.ntmps12
    go_wp2_with fail
    go_ret
    exact ⟨rfl, (by repeat (first | with_reducible exact Below.refl _ _ | with_reducible assumption | with_reducible refine ExtD ?_ | with_reducible refine ExtDN ?_ | with_reducible refine ExtA ?_ | (with_reducible refine ExtR ?_ ?_; (first | omega | (dsimp only; omega) | (simp; done) | (simp; omega))) | (with_reducible refine ExtS ?_ ?_; (first | omega | (dsimp only; omega) | (simp; done) | (simp; omega))) | with_reducible refine Ext.tr ?_ (by with_reducible assumption)))⟩
  subst h5
  by_cases h6 : a6 = b6
  rotate_left 1
  · skip
    have t0 : (a6 != b6) = true := by simpa using h6
    unfold stcells at *
    dsimp only at *
    clear hne h6 hr hr2 hl hl2
    go_enter Try.func12, Try.ntmps12
    go_wp2_with fail
    go_ret
    exact ⟨rfl, (by repeat (first | with_reducible exact Below.refl _ _ | with_reducible assumption | with_reducible refine ExtD ?_ | with_reducible refine ExtDN ?_ | with_reducible refine ExtA ?_ | (with_reducible refine ExtR ?_ ?_; (first | omega | (dsimp only; omega) | (simp; done) | (simp; omega))) | (with_reducible refine ExtS ?_ ?_; (first | omega | (dsimp only; omega) | (simp; done) | (simp; omega))) | with_reducible refine Ext.tr ?_ (by with_reducible assumption)))⟩
  subst h6
  by_cases h7 : a7 = b7
  rotate_left 1
  · skip
    have t0 : (a7 != b7) = true := by simpa using h7
    unfold stcells at *
    dsimp only at *
    clear hne h7 hr hr2 hl hl2
    go_enter Try.func12, Try.ntmps12
    go_wp2_with fail
    go_ret
    exact ⟨rfl, (by repeat (first | with_reducible exact Below.refl _ _ | with_reducible assumption | with_reducible refine ExtD ?_ | with_reducible refine ExtDN ?_ | with_reducible refine ExtA ?_ | (with_reducible refine ExtR ?_ ?_; (first | omega | (dsimp only; omega) | (simp; done) | (simp; omega))) | (with_reducible refine ExtS ?_ ?_; (first | omega | (dsimp only; omega) | (simp; done) | (simp; omega))) | with_reducible refine Ext.tr ?_ (by with_reducible assumption)))⟩
  subst h7
  by_cases h8 : a8 = b8
  rotate_left 1
  · skip
    have t0 : (a8 != b8) = true := by simpa using h8
    unfold stcells at *
    dsimp only at *
    clear hne h8 hr hr2 hl hl2
    go_enter Try.func12, Try.ntmps12
    go_wp2_with fail
    go_ret
    exact ⟨rfl, (by repeat (first | with_reducible exact Below.refl _ _ | with_reducible assumption | with_reducible refine ExtD ?_ | with_reducible refine ExtDN ?_ | with_reducible refine ExtA ?_ | (with_reducible refine ExtR ?_ ?_; (first | omega | (dsimp only; omega) | (simp; done) | (simp; omega))) | (with_reducible refine ExtS ?_ ?_; (first | omega | (dsimp only; omega) | (simp; done) | (simp; omega))) | with_reducible refine Ext.tr ?_ (by with_reducible assumption)))⟩
  subst h8
  by_cases h9 : a9 = b9
  rotate_left 1
  · skip
    have t0 : (a9 != b9) = true := by simpa using h9
    unfold stcells at *
    dsimp only at *
    clear hne h9 hr hr2 hl hl2
    go_enter Try.func12, Try.ntmps12
    go_wp2_with fail
    go_ret
    exact ⟨rfl, (by repeat (first | with_reducible exact Below.refl _ _ | with_reducible assumption | with_reducible refine ExtD ?_ | with_reducible refine ExtDN ?_ | with_reducible refine ExtA ?_ | (with_reducible refine ExtR ?_ ?_; (first | omega | (dsimp only; omega) | (simp; done) | (simp; omega))) | (with_reducible refine ExtS ?_ ?_; (first | omega | (dsimp only; omega) | (simp; done) | (simp; omega))) | with_reducible refine Ext.tr ?_ (by with_reducible assumption)))⟩
  subst h9
  by_cases h10 : a10 = b10
  rotate_left 1
  · skip
    have t0 : (a10 != b10) = true := by simpa using h10
    unfold stcells at *
    dsimp only at *
    clear hne h10 hr hr2 hl hl2
    go_enter Try.func12, Try.ntmps12
    go_wp2_with fail
    go_ret
    exact ⟨rfl, (by repeat (first | with_reducible exact Below.refl _ _ | with_reducible assumption | with_reducible refine ExtD ?_ | with_reducible refine ExtDN ?_ | with_reducible refine ExtA ?_ | (with_reducible refine ExtR ?_ ?_; (first | omega | (dsimp only; omega) | (simp; done) | (simp; omega))) | (with_reducible refine ExtS ?_ ?_; (first | omega | (dsimp only; omega) | (simp; done) | (simp; omega))) | with_reducible refine Ext.tr ?_ (by with_reducible assumption)))⟩
  subst h10
  by_cases h11 : who = who2
  rotate_left 1
  · have t0 : ¬ who.toList = who2.toList := fun h => h11 (who_inj h)
    unfold stcells at *
    dsimp only at *
    clear hne h11 hr hr2 hl hl2
    go_enter Try.func12, Try.ntmps12
    go_wp2_with fail
    go_ret
    exact ⟨rfl, (by repeat (first | with_reducible exact Below.refl _ _ | with_reducible assumption | with_reducible refine ExtD ?_ | with_reducible refine ExtDN ?_ | with_reducible refine ExtA ?_ | (with_reducible refine ExtR ?_ ?_; (first | omega | (dsimp only; omega) | (simp; done) | (simp; omega))) | (with_reducible refine ExtS ?_ ?_; (first | omega | (dsimp only; omega) | (simp; done) | (simp; omega))) | with_reducible refine Ext.tr ?_ (by with_reducible assumption)))⟩
  subst h11
  by_cases h12 : ls.length = ls2.length
  rotate_left 1
  · have t0 : ((ls.length : Int) != (ls2.length : Int)) = true := by simp; omega
    unfold stcells at *
    dsimp only at *
    clear hne h12 hr hr2 hl hl2
    go_enter Try.func12, Try.ntmps12
    go_wp2_with fail
    go_ret
    exact ⟨rfl, (by repeat (first | with_reducible exact Below.refl _ _ | with_reducible assumption | with_reducible refine ExtD ?_ | with_reducible refine ExtDN ?_ | with_reducible refine ExtA ?_ | (with_reducible refine ExtR ?_ ?_; (first | omega | (dsimp only; omega) | (simp; done) | (simp; omega))) | (with_reducible refine ExtS ?_ ?_; (first | omega | (dsimp only; omega) | (simp; done) | (simp; omega))) | with_reducible refine Ext.tr ?_ (by with_reducible assumption)))⟩
  have hne2 : ls ≠ ls2 := fun h => hne (by rw [h])
  obtain ⟨n, hnn⟩ : ∃ n, n = ls.length := ⟨_, rfl⟩
  have Hn := Lib.hid hnn
  have Hn2 := Lib.hid (hnn.trans h12)
  have HNE := Lib.hid hne2
  unfold stcells at *
  dsimp only at *
  rw [← h12, ← hnn]
  rw [← hnn] at hl
  clear hnn h12 hne hne2 hl2
  go_enter Try.func12, Try.ntmps12
  go_wp2_with fail
  obtain ⟨W, hW⟩ : ∃ W, W = (w.alloc (.cells #[.int .i64 a1, .int .i64 a2, .int .i64 a3, .int .i64 a4, .int .i64 a5, .slice A n c, .int .i64 a6, .int .i64 a7, .int .i64 a8, .int .i64 a9, .int .i64 a10, .string who] 28)).alloc (.cells #[.int .i64 a1, .int .i64 a2, .int .i64 a3, .int .i64 a4, .int .i64 a5, .slice A2 n c2, .int .i64 a6, .int .i64 a7, .int .i64 a8, .int .i64 a9, .int .i64 a10, .string who] 28) := ⟨_, rfl⟩
  have hXW : Ext w W := by rw [hW]; exact (by repeat (first | with_reducible exact Below.refl _ _ | with_reducible assumption | with_reducible refine ExtD ?_ | with_reducible refine ExtDN ?_ | with_reducible refine ExtA ?_ | (with_reducible refine ExtR ?_ ?_; (first | omega | (dsimp only; omega) | (simp; done) | (simp; omega))) | (with_reducible refine ExtS ?_ ?_; (first | omega | (dsimp only; omega) | (simp; done) | (simp; omega))) | with_reducible refine Ext.tr ?_ (by with_reducible assumption)))
  have hB1 : Blk W w.heap.size 28 #[.int .i64 a1, .int .i64 a2, .int .i64 a3, .int .i64 a4, .int .i64 a5, .slice A n c, .int .i64 a6, .int .i64 a7, .int .i64 a8, .int .i64 a9, .int .i64 a10, .string who] := by rw [hW]; exact (by repeat (first | with_reducible assumption | (with_reducible refine BlkN ?_; (first | rfl | (first | omega | (dsimp only; omega) | (simp; done) | (simp; omega)))) | with_reducible refine BlkD ?_ | with_reducible refine BlkDN ?_ | with_reducible refine BlkA ?_ | (with_reducible refine BlkF ?_ ?_; (first | omega | (dsimp only; omega) | (simp; done) | (simp; omega))) | with_reducible refine BlkE ?_ (by with_reducible assumption)))
  have hB2 : Blk W (w.heap.size + 1) 28 #[.int .i64 a1, .int .i64 a2, .int .i64 a3, .int .i64 a4, .int .i64 a5, .slice A2 n c2, .int .i64 a6, .int .i64 a7, .int .i64 a8, .int .i64 a9, .int .i64 a10, .string who] := by rw [hW]; exact (by repeat (first | with_reducible assumption | (with_reducible refine BlkN ?_; (first | rfl | (first | omega | (dsimp only; omega) | (simp; done) | (simp; omega)))) | with_reducible refine BlkD ?_ | with_reducible refine BlkDN ?_ | with_reducible refine BlkA ?_ | (with_reducible refine BlkF ?_ ?_; (first | omega | (dsimp only; omega) | (simp; done) | (simp; omega))) | with_reducible refine BlkE ?_ (by with_reducible assumption)))
  rw [← hW]
  clear hW
  go_loopw [91] (fun c91 wr => SnR W ls ls2 n c91 wr) (fun c91 _ => n - (intOf c91).toNat)
  case atStart => exact ⟨0, rfl, by omega, Below.refl _ _, by simp⟩
  case round =>
    obtain ⟨k, rfl, hk, hx, htk⟩ := hrel
    have HTK := Lib.hid htk
    clear htk
    by_cases hlt : k < n
    · obtain ⟨b, o, rfl, hc⟩ := ls_at hr (show k < ls.length by rw [← Hn.out]; exact hlt)
      obtain ⟨b2, o2, rfl, hc2⟩ := ls_at hr2 (show k < ls2.length by rw [← Hn2.out]; exact hlt)
      have Hc := Lib.hid (range_ext hc (hXW.tr hx))
      have Hc2 := Lib.hid (range_ext hc2 (hXW.tr hx))
      have HS : Hid (ls[k]'(by rw [← Hn.out]; exact hlt) = ls2[k]'(by rw [← Hn2.out]; exact hlt) → ls.take (k + 1) = ls2.take (k + 1)) := Lib.hid fun h => by
        rw [List.take_succ_eq_append_getElem (by rw [← Hn.out]; exact hlt), List.take_succ_eq_append_getElem (by rw [← Hn2.out]; exact hlt), HTK.out, h]
      clear hc hc2
      generalize (ls[k]'(by rw [← Hn.out]; exact hlt)) = l at *
      generalize (ls2[k]'(by rw [← Hn2.out]; exact hlt)) = m at *
      obtain ⟨li, lp, lq, lsh⟩ := l
      obtain ⟨mi, mp, mq, msh⟩ := m
      unfold lncells at Hc Hc2
      dsimp only at Hc Hc2
      have e0 : wr.cell? ⟨b, o + k * 4, none⟩ = some (.int .i64 li) := Hc.out 0 _ rfl
      have e1 : wr.cell? ⟨b, o + k * 4 + 1, none⟩ = some (.int .i64 lp) := Hc.out 1 _ rfl
      have e2 : wr.cell? ⟨b, o + k * 4 + 2, none⟩ = some (.int .i64 lq) := Hc.out 2 _ rfl
      have e3 : wr.cell? ⟨b, o + k * 4 + 3, none⟩ = some (.int .i64 lsh) := Hc.out 3 _ rfl
      have f0 : wr.cell? ⟨b2, o2 + k * 4, none⟩ = some (.int .i64 mi) := Hc2.out 0 _ rfl
      have f1 : wr.cell? ⟨b2, o2 + k * 4 + 1, none⟩ = some (.int .i64 mp) := Hc2.out 1 _ rfl
      have f2 : wr.cell? ⟨b2, o2 + k * 4 + 2, none⟩ = some (.int .i64 mq) := Hc2.out 2 _ rfl
      have f3 : wr.cell? ⟨b2, o2 + k * 4 + 3, none⟩ = some (.int .i64 msh) := Hc2.out 3 _ rfl
      have a5' : wr.cell? ⟨w.heap.size, 5, none⟩ = some (.slice (some ⟨b, o, none⟩) n c) := (BlkE hB1 hx).cell 5
      have b5' : wr.cell? ⟨w.heap.size + 1, 5, none⟩ = some (.slice (some ⟨b2, o2, none⟩) n c2) := (BlkE hB2 hx).cell 5
      have hkn : (k : Int) < (n : Int) := by omega
      by_cases heq : li = mi ∧ lp = mp ∧ lq = mq ∧ lsh = msh
      · obtain ⟨rfl, rfl, rfl, rfl⟩ := heq
        go_wp2_with fail
        all_goals try go_region
        all_goals (go_wp2_with fail)
        refine And.intro ?_ ?_
        · exact ⟨k + 1, by go_num, by omega, (by repeat (first | with_reducible exact Below.refl _ _ | with_reducible assumption | with_reducible refine ExtD ?_ | with_reducible refine ExtDN ?_ | with_reducible refine ExtA ?_ | (with_reducible refine ExtR ?_ ?_; (first | omega | (dsimp only; omega) | (simp; done) | (simp; omega))) | (with_reducible refine ExtS ?_ ?_; (first | omega | (dsimp only; omega) | (simp; done) | (simp; omega))) | with_reducible refine Ext.tr ?_ (by with_reducible assumption))), HS.out (by first | rfl | trivial)⟩
        · simp [intOf]; omega
      · have hnq : ∀ W : World, (binOp .neq 37 (.agg #[.int .i64 li, .int .i64 lp, .int .i64 lq, .int .i64 lsh]) (.agg #[.int .i64 mi, .int .i64 mp, .int .i64 mq, .int .i64 msh])).run Try.prog W = .ok (.bool true) W := fun W => neq_ln heq W
        go_wp2_with fail
        all_goals try go_region
        all_goals (go_wp2_with fail)
        go_ret
        exact ⟨rfl, (by repeat (first | with_reducible exact Below.refl _ _ | with_reducible assumption | with_reducible refine ExtD ?_ | with_reducible refine ExtDN ?_ | with_reducible refine ExtA ?_ | (with_reducible refine ExtR ?_ ?_; (first | omega | (dsimp only; omega) | (simp; done) | (simp; omega))) | (with_reducible refine ExtS ?_ ?_; (first | omega | (dsimp only; omega) | (simp; done) | (simp; omega))) | with_reducible refine Ext.tr ?_ (by with_reducible assumption)))⟩
    · obtain rfl : k = n := by omega
      exfalso
      have h1 := HTK.out
      rw [List.take_of_length_le (by rw [← Hn.out]; exact Nat.le_refl _), List.take_of_length_le (by rw [← Hn2.out]; exact Nat.le_refl _)] at h1
      exact HNE.out h1
end Go.Proofs.Ytipdilmlodakoaa
