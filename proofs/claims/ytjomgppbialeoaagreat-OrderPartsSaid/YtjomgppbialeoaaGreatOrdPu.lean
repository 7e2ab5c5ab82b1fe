/-
  The walk of OrderParts.
-/
import Derived.Test.YtjomgppbialeoaaGreatOrdPt
import Derived.Test.YtjomgppbialeoaaGreatOrdLawA
namespace Go.Proofs.YtjomgppbialeoaaGreat
open Go.RowKit
set_option linter.unusedVariables false
set_option linter.unusedSimpArgs false
theorem parts_facts {s : St} (hv : validB s = true) (h0 : net s.lines ≠ 0) : ∃ (T : Nat) (f : Nat → Nat), due s = (T : Int) ∧ T ≤ 320000000000000 ∧ (∀ k, k < s.lines.length → (shList (due s).toNat (worths s.lines)).getD k 0 = (f k : Int)) ∧ (∀ k, k ≤ s.lines.length → sumF f k ≤ T) ∧ sumF f s.lines.length = T := by
  obtain ⟨hl, h16, ht⟩ := valid_tax hv
  have hok := parts_shOk hl h16 ht h0
  have hd := due_bd hl h16 ht
  obtain ⟨_, hS, _⟩ := ok_sum _ _ (worths_i64 hl) hok
  obtain ⟨T, hT⟩ : ∃ T : Nat, due s = (T : Int) := ⟨(due s).toNat, by omega⟩
  have hs := share_sum T (worths s.lines) hS
  rw [worths_len] at hs
  refine ⟨T, shareN T (worths s.lines), hT, by omega, fun k hk => ?_, fun k hk => ?_, hs⟩
  · rw [hT]; exact shList_get T _ k (by rw [worths_len]; exact hk)
  · have := sumF_mono (f := shareN T (worths s.lines)) hk
    omega
def OpR (W : World) (n : Nat) (f : Nat → Nat) (v7 v36 : Value) (wr : World) : Prop := ∃ k : Nat, v36 = .int .i64 (k : Nat) ∧ k ≤ n ∧ v7 = .int .i64 (sumF f k : Nat) ∧ Ext W wr
set_option maxRecDepth 100000 in
set_option maxHeartbeats 4000000 in
theorem orderParts_walk (s : St) (A : Option Addr) (c : Nat) (w : World) (hr : LsRd w A s.lines) (hs : StWf s) :
    Calls Tryz.prog 3 #[.agg (stcells s A c)] w fun e w' => e = .returned (.bool true) ∧ Ext w w' := by
  have hlen := hs.2.2.2.1
  have hwho := hs.2.2.1
  have K0 := Lib.hid head_any
  have KC := Lib.hid fun W (h : LsRd W A s.lines) => scopy_any s A c W h (by omega)
  have KD := Lib.hid fun A' c' W (h : LsRd W A' s.lines) => pdue_any s A' c' W h (by omega) (by omega)
  unfold CopPost at KC
  have HR := Lib.hid hr
  by_cases hok : validB s = true ∧ net s.lines ≠ 0
  · have KP := Lib.hid fun A' c' W (h : LsRd W A' s.lines) => parts_yes s A' c' W h (by omega) (by omega) hok.1 hok.2
    have KR := Lib.hid fun W (h : LsRd W A s.lines) => rparts_yes s A c W h (by omega) (by omega) hok.1 hok.2
    obtain ⟨T, f, hT, hTb, hg, hm, hsum⟩ := parts_facts hok.1 hok.2
    rw [if_pos hok.1, hok.1, hT] at KD
    rw [hT] at KP KR hg
    have HG := Lib.hid hg
    have HM := Lib.hid hm
    have HSum := Lib.hid hsum
    generalize shList (T : Int).toNat (worths s.lines) = sl at *
    obtain ⟨n, hnn⟩ : ∃ n, n = s.lines.length := ⟨_, rfl⟩
    rw [← hnn] at KP KR HG HM HSum
    have hn0 : n ≤ 4398046510976 := by omega
    clear hs hlen hwho hr hok hT hg hm hsum hnn
    go_enter Tryz.func3, Tryz.ntmps3
    go_wp2_with (first
      | (go_at_call 4; (with_reducible refine (K0.out _).mono ?_); rintro e w1 ⟨rfl, hx1⟩; have c2 : Blk w1 w.heap.size 25 (stcells s A c) := BlkE (BlkN rfl) hx1)
      | (with_reducible refine wpL_load_row rfl 25 (.tmp 1) rfl _ 25 _ 12 rfl c2 st_wide (stc_size _ _ _) ?_)
      | (go_at_call 5; (with_reducible refine (KR.out _ (HR.out.ext (by repeat (first | with_reducible exact Below.refl _ _ | with_reducible assumption | with_reducible refine ExtD ?_ | with_reducible refine ExtDN ?_ | with_reducible refine ExtA ?_ | (with_reducible refine ExtR ?_ ?_; (first | omega | (dsimp only; omega) | (simp; done) | (simp; omega))) | (with_reducible refine ExtS ?_ ?_; (first | omega | (dsimp only; omega) | (simp; done) | (simp; omega))) | with_reducible refine Ext.tr ?_ (by with_reducible assumption))))).mono ?_); rintro e w2 ⟨B2, d2, rfl, hx2, R2⟩; have c2 := BlkE c2 hx2)
      | (go_at_call 7; (with_reducible refine (KC.out _ (HR.out.ext (by repeat (first | with_reducible exact Below.refl _ _ | with_reducible assumption | with_reducible refine ExtD ?_ | with_reducible refine ExtDN ?_ | with_reducible refine ExtA ?_ | (with_reducible refine ExtR ?_ ?_; (first | omega | (dsimp only; omega) | (simp; done) | (simp; omega))) | (with_reducible refine ExtS ?_ ?_; (first | omega | (dsimp only; omega) | (simp; done) | (simp; omega))) | with_reducible refine Ext.tr ?_ (by with_reducible assumption))))).mono ?_); rintro e w4 ⟨A4, c4, rfl, hx4, ho4⟩; have c2 := BlkE c2 hx4)
      | (go_at_call 6; (with_reducible refine (KP.out _ _ _ ho4.rd).mono ?_); rintro e w5 ⟨B5, d5, rfl, hx5, R5⟩; have c2 := BlkE c2 hx5))
    have HR2 := Lib.hid (Rd.ext R2 (hx4.tr hx5))
    have HR5 := Lib.hid R5
    have HX5 : Hid (Ext w w5) := Lib.hid (by repeat (first | with_reducible exact Below.refl _ _ | with_reducible assumption | with_reducible refine ExtD ?_ | with_reducible refine ExtDN ?_ | with_reducible refine ExtA ?_ | (with_reducible refine ExtR ?_ ?_; (first | omega | (dsimp only; omega) | (simp; done) | (simp; omega))) | (with_reducible refine ExtS ?_ ?_; (first | omega | (dsimp only; omega) | (simp; done) | (simp; omega))) | with_reducible refine Ext.tr ?_ (by with_reducible assumption)))
    have C2 := Lib.hid c2
    clear hx1 hx2 hx4 hx5 ho4 c2 R2 R5
    go_loopw [7, 8, 36] (fun v7 _ v36 wr => OpR w5 n f v7 v36 wr) (fun _ _ v36 _ => n - (intOf v36).toNat)
    case atStart => exact ⟨0, rfl, by omega, rfl, (by repeat (first | with_reducible exact Below.refl _ _ | with_reducible assumption | with_reducible refine ExtD ?_ | with_reducible refine ExtDN ?_ | with_reducible refine ExtA ?_ | (with_reducible refine ExtR ?_ ?_; (first | omega | (dsimp only; omega) | (simp; done) | (simp; omega))) | (with_reducible refine ExtS ?_ ?_; (first | omega | (dsimp only; omega) | (simp; done) | (simp; omega))) | with_reducible refine Ext.tr ?_ (by with_reducible assumption)))⟩
    case round =>
      obtain ⟨k, rfl, hk, rfl, hx⟩ := hrel
      have HX := Lib.hid hx
      by_cases hlt : k < n
      · obtain ⟨b, o, rfl, hc1⟩ := at_ints (HR2.out.ext HX.out) hlt
        obtain ⟨b2, o2, rfl, hc2⟩ := at_ints (HR5.out.ext HX.out) hlt
        have hs1 := HM.out (k + 1) hlt
        have HS1 : Hid (sumF f (k + 1) = sumF f k + f k) := Lib.hid rfl
        rw [HS1.out] at hs1
        have hge := HG.out k hlt
        rw [hge] at hc1 hc2
        generalize f k = x at *
        generalize sumF f k = a at *
        clear hge
        go_wp2_with fail
        go_quiet (fail)
        go_wp2_with fail
        go_roundw
        case rel => exact ⟨k + 1, by go_num, by omega, by rw [HS1.out]; go_num, (by repeat (first | with_reducible exact Below.refl _ _ | with_reducible assumption | with_reducible refine ExtD ?_ | with_reducible refine ExtDN ?_ | with_reducible refine ExtA ?_ | (with_reducible refine ExtR ?_ ?_; (first | omega | (dsimp only; omega) | (simp; done) | (simp; omega))) | (with_reducible refine ExtS ?_ ?_; (first | omega | (dsimp only; omega) | (simp; done) | (simp; omega))) | with_reducible refine Ext.tr ?_ (by with_reducible assumption)))⟩
        case measure => simp [intOf]; omega
      · obtain rfl : k = n := by omega
        have c2 := BlkE C2.out HX.out
        have HX6 : Ext w wr := HX5.out.tr HX.out
        rw [HSum.out]
        go_wp2_with (first
          | (with_reducible refine wpL_load_row rfl 25 (.tmp 1) rfl _ 25 _ 12 rfl c2 st_wide (stc_size _ _ _) ?_)
          | (go_at_call 7; (with_reducible refine (KC.out _ (HR.out.ext (by repeat (first | with_reducible exact Below.refl _ _ | with_reducible assumption | with_reducible refine ExtD ?_ | with_reducible refine ExtDN ?_ | with_reducible refine ExtA ?_ | (with_reducible refine ExtR ?_ ?_; (first | omega | (dsimp only; omega) | (simp; done) | (simp; omega))) | (with_reducible refine ExtS ?_ ?_; (first | omega | (dsimp only; omega) | (simp; done) | (simp; omega))) | with_reducible refine Ext.tr ?_ (by with_reducible assumption))))).mono ?_); rintro e w7 ⟨A7, c7, rfl, hx7, ho7⟩)
          | (go_at_call 8; (with_reducible refine (KD.out _ _ _ ho7.rd).mono ?_); rintro e w8 ⟨rfl, hx8⟩))
        go_ret
        exact ⟨rfl, (by repeat (first | with_reducible exact Below.refl _ _ | with_reducible assumption | with_reducible refine ExtD ?_ | with_reducible refine ExtDN ?_ | with_reducible refine ExtA ?_ | (with_reducible refine ExtR ?_ ?_; (first | omega | (dsimp only; omega) | (simp; done) | (simp; omega))) | (with_reducible refine ExtS ?_ ?_; (first | omega | (dsimp only; omega) | (simp; done) | (simp; omega))) | with_reducible refine Ext.tr ?_ (by with_reducible assumption)))⟩
  · have KP := Lib.hid fun A' c' W (h : LsRd W A' s.lines) => parts_no s A' c' W h (by omega) (by omega) hok
    have KR := Lib.hid fun W (h : LsRd W A s.lines) => rparts_no s A c W h (by omega) (by omega) hok
    clear hs hlen hwho hr hok
    generalize (if validB s then due s else 0) = D at *
    generalize validB s = V at *
    go_enter Tryz.func3, Tryz.ntmps3
    go_wp2_with (first
      | (go_at_call 4; (with_reducible refine (K0.out _).mono ?_); rintro e w1 ⟨rfl, hx1⟩; have c2 : Blk w1 w.heap.size 25 (stcells s A c) := BlkE (BlkN rfl) hx1)
      | (with_reducible refine wpL_load_row rfl 25 (.tmp 1) rfl _ 25 _ 12 rfl c2 st_wide (stc_size _ _ _) ?_)
      | (go_at_call 5; (with_reducible refine (KR.out _ (HR.out.ext (by repeat (first | with_reducible exact Below.refl _ _ | with_reducible assumption | with_reducible refine ExtD ?_ | with_reducible refine ExtDN ?_ | with_reducible refine ExtA ?_ | (with_reducible refine ExtR ?_ ?_; (first | omega | (dsimp only; omega) | (simp; done) | (simp; omega))) | (with_reducible refine ExtS ?_ ?_; (first | omega | (dsimp only; omega) | (simp; done) | (simp; omega))) | with_reducible refine Ext.tr ?_ (by with_reducible assumption))))).mono ?_); rintro e w2 ⟨rfl, hx2⟩; have c2 := BlkE c2 hx2)
      | (go_at_call 7; (with_reducible refine (KC.out _ (HR.out.ext (by repeat (first | with_reducible exact Below.refl _ _ | with_reducible assumption | with_reducible refine ExtD ?_ | with_reducible refine ExtDN ?_ | with_reducible refine ExtA ?_ | (with_reducible refine ExtR ?_ ?_; (first | omega | (dsimp only; omega) | (simp; done) | (simp; omega))) | (with_reducible refine ExtS ?_ ?_; (first | omega | (dsimp only; omega) | (simp; done) | (simp; omega))) | with_reducible refine Ext.tr ?_ (by with_reducible assumption))))).mono ?_); rintro e w4 ⟨A4, c4, rfl, hx4, ho4⟩; have c2 := BlkE c2 hx4)
      | (go_at_call 6; (with_reducible refine (KP.out _ _ _ ho4.rd).mono ?_); rintro e w5 ⟨rfl, hx5⟩; have c2 := BlkE c2 hx5))
    have HX5 : Hid (Ext w w5) := Lib.hid (by repeat (first | with_reducible exact Below.refl _ _ | with_reducible assumption | with_reducible refine ExtD ?_ | with_reducible refine ExtDN ?_ | with_reducible refine ExtA ?_ | (with_reducible refine ExtR ?_ ?_; (first | omega | (dsimp only; omega) | (simp; done) | (simp; omega))) | (with_reducible refine ExtS ?_ ?_; (first | omega | (dsimp only; omega) | (simp; done) | (simp; omega))) | with_reducible refine Ext.tr ?_ (by with_reducible assumption)))
    have C2 := Lib.hid c2
    clear hx1 hx2 hx4 hx5 ho4 c2
    go_loopw [7, 8, 36] (fun _ _ v36 wr => v36 = .int .i64 0 ∧ Ext w5 wr) (fun _ _ _ _ => 0)
    case atStart => exact ⟨rfl, (by repeat (first | with_reducible exact Below.refl _ _ | with_reducible assumption | with_reducible refine ExtD ?_ | with_reducible refine ExtDN ?_ | with_reducible refine ExtA ?_ | (with_reducible refine ExtR ?_ ?_; (first | omega | (dsimp only; omega) | (simp; done) | (simp; omega))) | (with_reducible refine ExtS ?_ ?_; (first | omega | (dsimp only; omega) | (simp; done) | (simp; omega))) | with_reducible refine Ext.tr ?_ (by with_reducible assumption)))⟩
    case round =>
      obtain ⟨rfl, hx⟩ := hrel
      have c2 := BlkE C2.out hx
      have HX6 : Ext w wr := HX5.out.tr hx
      go_wp2_with (first
        | (with_reducible refine wpL_load_row rfl 25 (.tmp 1) rfl _ 25 _ 12 rfl c2 st_wide (stc_size _ _ _) ?_)
        | (go_at_call 7; (with_reducible refine (KC.out _ (HR.out.ext (by repeat (first | with_reducible exact Below.refl _ _ | with_reducible assumption | with_reducible refine ExtD ?_ | with_reducible refine ExtDN ?_ | with_reducible refine ExtA ?_ | (with_reducible refine ExtR ?_ ?_; (first | omega | (dsimp only; omega) | (simp; done) | (simp; omega))) | (with_reducible refine ExtS ?_ ?_; (first | omega | (dsimp only; omega) | (simp; done) | (simp; omega))) | with_reducible refine Ext.tr ?_ (by with_reducible assumption))))).mono ?_); rintro e w7 ⟨A7, c7, rfl, hx7, ho7⟩)
        | (go_at_call 8; (with_reducible refine (KD.out _ _ _ ho7.rd).mono ?_); rintro e w8 ⟨rfl, hx8⟩))
      go_ret
      exact ⟨rfl, (by repeat (first | with_reducible exact Below.refl _ _ | with_reducible assumption | with_reducible refine ExtD ?_ | with_reducible refine ExtDN ?_ | with_reducible refine ExtA ?_ | (with_reducible refine ExtR ?_ ?_; (first | omega | (dsimp only; omega) | (simp; done) | (simp; omega))) | (with_reducible refine ExtS ?_ ?_; (first | omega | (dsimp only; omega) | (simp; done) | (simp; omega))) | with_reducible refine Ext.tr ?_ (by with_reducible assumption)))⟩
end Go.Proofs.YtjomgppbialeoaaGreat
