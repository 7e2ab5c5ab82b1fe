/-
  The walks of the reference's frames: Peek, Decode.
-/
import Derived.Test.YtjomgppbialeoaaDoorFrmD
namespace Go.Proofs.YtjomgppbialeoaaDoor
open Go.RowKit
set_option linter.unusedVariables false
set_option linter.unusedSimpArgs false
def RkR (w : World) (l : List UInt8) (c8 c9 : Value) (wr : World) : Prop := ∃ j : Nat, c9 = .int .i64 (9 - (j : Int)) ∧ j ≤ 6 ∧ c8 = .int .i64 (un8 ((l.drop (10 - j)).take j) : Nat) ∧ Ext w wr
theorem rs_step {l : List UInt8} {j : Nat} (hl : 16 ≤ l.length) (hj : j < 6) : un8 ((l.drop (10 - (j + 1))).take (j + 1)) = (l.getD (9 - j) 0).toNat + 256 * un8 ((l.drop (10 - j)).take j) := by
  have h : 9 - j < l.length := by omega
  rw [show 10 - (j + 1) = 9 - j by omega, List.drop_eq_getElem_cons h, List.take_succ_cons, show 9 - j + 1 = 10 - j by omega]
  rw [List.getD_eq_getElem?_getD, List.getElem?_eq_getElem h]
  rfl
theorem rs_bd (l : List UInt8) (j : Nat) (hj : j ≤ 6) : un8 ((l.drop (10 - j)).take j) < 281474976710656 := by
  have h := un8_pow ((l.drop (10 - j)).take j)
  have h2 : ((l.drop (10 - j)).take j).length ≤ j := List.length_take_le _ _
  have h3 : 256 ^ ((l.drop (10 - j)).take j).length ≤ 256 ^ 6 := Nat.pow_le_pow_right (by decide) (by omega)
  omega
theorem fs_split {l : List UInt8} (hl : 16 ≤ l.length) : fs8 l = un8 ((l.drop 4).take 6) + (l.getD 10 0).toNat * 281474976710656 + (l.getD 11 0).toNat * 72057594037927936 := by
  have h1 := fs_step (l := l) (i := 6) hl (by decide)
  have h2 := fs_step (l := l) (i := 7) hl (by decide)
  unfold fs8
  rw [h2, h1]
def HiQ (w : World) (x y : Nat) (v : Value) (wc : World) : Prop := v = .bool (!decide (x = 0) || !decide (y = 0)) ∧ Ext w wc
set_option maxRecDepth 100000 in
set_option maxHeartbeats 4000000 in
theorem rpeek_any (A : Option Addr) (n c : Nat) (l : List UInt8) (w : World) (hr : Rd w A n (u8s l)) (hnc : n ≤ c) (hn : n ≤ maxLen) :
    Calls Tryd.prog 38 #[.slice A n c] w fun e w' => e = PkT (fpeek l) ∧ Ext w w' := by
  have hlen : l.length = n := by have := hr.1; rw [u8s_len] at this; exact this
  by_cases h16 : n < 16
  · have hf : Hid (fpeek l = (0, 0, 0, 60)) := Lib.hid (by unfold fpeek; rw [if_pos (by omega)])
    have t1 : decide ((n : Int) < 16) = true := by simp; omega
    clear hlen
    go_enter Tryd.func38, Tryd.ntmps38
    go_wp2_with fail
    ((try simp only [Exit.inBlock, Exit.then]); refine bodyPost_ret (results_tmp4 rfl _ _ _) rfl ?_)
    exact ⟨by rw [hf.out]; rfl, (by repeat (first | with_reducible exact Below.refl _ _ | with_reducible assumption | with_reducible refine ExtD ?_ | with_reducible refine ExtDN ?_ | with_reducible refine ExtA ?_ | (with_reducible refine ExtR ?_ ?_; (first | omega | (dsimp only; omega) | (simp; done) | (simp; omega))) | (with_reducible refine ExtS ?_ ?_; (first | omega | (dsimp only; omega) | (simp; done) | (simp; omega))) | with_reducible refine Ext.tr ?_ (by with_reducible assumption)))⟩
  by_cases h0 : l.getD 0 0 = 165
  case neg =>
    have hf : Hid (fpeek l = (0, 0, 0, 61)) := Lib.hid (by unfold fpeek; rw [if_neg (by omega), if_pos h0])
    have t1 : decide ((n : Int) < 16) = false := by simp; omega
    obtain ⟨b, o, rfl, e0⟩ := at_u8 hr (show 0 < n by omega)
    have t2 : (((l.getD 0 0).toNat : Int) == 165) = false := by
      simp only [beq_eq_false_iff_ne, ne_eq]
      intro h
      exact h0 (UInt8.toNat_inj.1 (by have : (165 : UInt8).toNat = 165 := rfl; omega))
    generalize (l.getD 0 0).toNat = x at *
    rw [Nat.add_zero] at e0
    clear hlen h0
    go_enter Tryd.func38, Tryd.ntmps38
    go_wp2_with fail
    ((try simp only [Exit.inBlock, Exit.then]); refine bodyPost_ret (results_tmp4 rfl _ _ _) rfl ?_)
    exact ⟨by rw [hf.out]; rfl, (by repeat (first | with_reducible exact Below.refl _ _ | with_reducible assumption | with_reducible refine ExtD ?_ | with_reducible refine ExtDN ?_ | with_reducible refine ExtA ?_ | (with_reducible refine ExtR ?_ ?_; (first | omega | (dsimp only; omega) | (simp; done) | (simp; omega))) | (with_reducible refine ExtS ?_ ?_; (first | omega | (dsimp only; omega) | (simp; done) | (simp; omega))) | with_reducible refine Ext.tr ?_ (by with_reducible assumption)))⟩
  have hl16 : 16 ≤ l.length := by omega
  obtain ⟨A1, hs1, hr1⟩ := slice_hi A n c 12 (by omega) hnc
  have hs1' : ∀ W : World, (Instr.slice 27 (.slice A n c) none (some (.int .i64 12)) none).run Tryd.prog W = .ok (.slice A1 12 c) W := fun W => hs1 W
  obtain ⟨A2, hs2, hr2⟩ := slice_lh A n c 12 16 (by decide) (by omega) hnc
  have hs2' : ∀ W : World, (Instr.slice 27 (.slice A n c) (some (.int .i64 12)) (some (.int .i64 16)) none).run Tryd.prog W = .ok (.slice A2 4 (c - 12)) W := fun W => hs2 W
  have t1 : decide ((n : Int) < 16) = false := by simp; omega
  obtain ⟨b, o, rfl, e0⟩ := at_u8 hr (show 0 < n by omega)
  rw [h0, Nat.add_zero] at e0
  have mixed : Tryd.prog.follows Departure.mixedOrders = true := by kernel_rfl
  have KS := Lib.hid fun W (hx : Ext w W) => rsum_any A1 12 c (l.take 12) W (hr1 W l (hr.ext hx)) (by decide)
  have KF := Lib.hid fun W => rfour_any (csum (l.take 12)) W (csum_lt _)
  unfold NewB at KF
  rw [show (four (csum (l.take 12))).length = 4 from rfl] at KF
  have KE := Lib.hid fun B c2 W (hx : Ext w W) (h : Rd W B 4 (u8s (four (csum (l.take 12))))) => same_any A2 B 4 (c - 12) 4 c2 ((l.drop 12).take (16 - 12)) (four (csum (l.take 12))) W (hr2 W l (hr.ext hx)) h (by decide)
  rw [show (16 - 12 : Nat) = 4 from rfl] at KE
  have HRw := Lib.hid hr
  by_cases hc : (l.drop 12).take 4 = four (csum (l.take 12))
  case neg =>
    have hf : Hid (fpeek l = (0, 0, 0, 62)) := Lib.hid (by unfold fpeek; rw [if_neg (by omega), if_neg (fun h => h h0), if_pos hc])
    rw [decide_eq_false hc] at KE
    generalize four (csum (l.take 12)) = F at *
    generalize csum (l.take 12) = Z at *
    clear hlen h0 hc hs1 hs2 hr hr1 hr2 hl16
    go_enter Tryd.func38, Tryd.ntmps38
    go_wp2_with fail
    go_region_law_o (first
      | (refine step_callG rfl _ rfl 33 _ Tryd.func33 (by kernel_rfl) (by kernel_rfl) _ _ rfl #[.slice A1 12 c] (by simp [Act.eval, Act.put]) _ (KS.out _ (ExtD (Ext.rfl' w))) ?_; rintro e w1 ⟨rfl, hx1⟩; refine ⟨_, rfl, ?_⟩)
      | (refine step_callG rfl _ rfl 32 _ Tryd.func32 (by kernel_rfl) (by kernel_rfl) _ _ rfl #[.int .u32 (Z : Nat)] (by simp [Act.eval, Act.put]) _ (KF.out _) ?_; rintro e w2 ⟨A6, c6, rfl, hx6, ho6⟩; refine ⟨_, rfl, ?_⟩)
      | (refine step_callG rfl _ rfl 10 _ Tryd.func10 (by kernel_rfl) (by kernel_rfl) _ _ rfl #[.slice A2 4 (c - 12), .slice A6 4 c6] (by simp [Act.eval, Act.put]) _ (KE.out A6 c6 _ (by repeat (first | with_reducible exact Below.refl _ _ | with_reducible assumption | with_reducible refine ExtD ?_ | with_reducible refine ExtDN ?_ | with_reducible refine ExtA ?_ | (with_reducible refine ExtR ?_ ?_; (first | omega | (dsimp only; omega) | (simp; done) | (simp; omega))) | (with_reducible refine ExtS ?_ ?_; (first | omega | (dsimp only; omega) | (simp; done) | (simp; omega))) | with_reducible refine Ext.tr ?_ (by with_reducible assumption))) (rd_own ho6)) ?_; rintro e w3 ⟨rfl, hx3⟩; refine ⟨_, rfl, ?_⟩))
    all_goals
      go_wp2_with fail
      ((try simp only [Exit.inBlock, Exit.then]); refine bodyPost_ret (results_tmp4 rfl _ _ _) rfl ?_)
      exact ⟨by rw [hf.out]; rfl, (by repeat (first | with_reducible exact Below.refl _ _ | with_reducible assumption | with_reducible refine ExtD ?_ | with_reducible refine ExtDN ?_ | with_reducible refine ExtA ?_ | (with_reducible refine ExtR ?_ ?_; (first | omega | (dsimp only; omega) | (simp; done) | (simp; omega))) | (with_reducible refine ExtS ?_ ?_; (first | omega | (dsimp only; omega) | (simp; done) | (simp; omega))) | with_reducible refine Ext.tr ?_ (by with_reducible assumption)))⟩
  rw [decide_eq_true hc] at KE
  have hf1 : Hid (fpeek l = if fk l < 1 ∨ 7 < fk l ∨ 16384 < fn l ∨ 1099511627776 < fs8 l then (0, 0, 0, 63) else (fk l, fs8 l, 20 + fn l, 0)) := Lib.hid (by unfold fpeek; rw [if_neg (by omega), if_neg (fun h => h h0), if_neg (fun h => h hc)])
  have hsp := fs_split hl16
  obtain ⟨_, _, hA1, e1⟩ := at_u8 hr (show 1 < n by omega)
  injection hA1 with hA1
  injection hA1 with hb ho
  subst hb ho
  obtain ⟨_, _, hA1, e2⟩ := at_u8 hr (show 2 < n by omega)
  injection hA1 with hA1
  injection hA1 with hb ho
  subst hb ho
  obtain ⟨_, _, hA1, e3⟩ := at_u8 hr (show 3 < n by omega)
  injection hA1 with hA1
  injection hA1 with hb ho
  subst hb ho
  obtain ⟨_, _, hA1, e10⟩ := at_u8 hr (show 10 < n by omega)
  injection hA1 with hA1
  injection hA1 with hb ho
  subst hb ho
  obtain ⟨_, _, hA1, e11⟩ := at_u8 hr (show 11 < n by omega)
  injection hA1 with hA1
  injection hA1 with hb ho
  subst hb ho
  obtain ⟨x1, hx1⟩ : ∃ x, x = (l.getD 1 0).toNat := ⟨_, rfl⟩
  obtain ⟨x2, hx2⟩ : ∃ x, x = (l.getD 2 0).toNat := ⟨_, rfl⟩
  obtain ⟨x3, hx3⟩ : ∃ x, x = (l.getD 3 0).toNat := ⟨_, rfl⟩
  obtain ⟨x10, hx10⟩ : ∃ x, x = (l.getD 10 0).toNat := ⟨_, rfl⟩
  obtain ⟨x11, hx11⟩ : ∃ x, x = (l.getD 11 0).toNat := ⟨_, rfl⟩
  have b1 : x1 ≤ 255 := by have := (l.getD 1 0).toNat_lt; omega
  have b2 : x2 ≤ 255 := by have := (l.getD 2 0).toNat_lt; omega
  have b3 : x3 ≤ 255 := by have := (l.getD 3 0).toNat_lt; omega
  have hk0 : Hid (fk l = x1) := Lib.hid (by unfold fk; rw [hx1])
  have hn0 : Hid (fn l = x2 + 256 * x3) := Lib.hid (by unfold fn; rw [hx2, hx3])
  rw [← hx1] at e1
  rw [← hx2] at e2
  rw [← hx3] at e3
  rw [← hx10] at e10 hsp
  rw [← hx11] at e11 hsp
  have Hsp := Lib.hid hsp
  have Hlen := Lib.hid hlen
  generalize four (csum (l.take 12)) = F at *
  generalize csum (l.take 12) = Z at *
  clear hlen h0 hc hs1 hs2 hr hr1 hr2 hl16 hsp hx1 hx2 hx3 hx10 hx11
  go_enter Tryd.func38, Tryd.ntmps38
  go_wp2_with fail
  go_cut [24] (fun v24 wc => v24 = .bool false ∧ Ext w wc)
  case first =>
    go_region_law_o (first
      | (refine step_callG rfl _ rfl 33 _ Tryd.func33 (by kernel_rfl) (by kernel_rfl) _ _ rfl #[.slice A1 12 c] (by simp [Act.eval, Act.put]) _ (KS.out _ (ExtD (Ext.rfl' w))) ?_; rintro e w1 ⟨rfl, hx1⟩; refine ⟨_, rfl, ?_⟩)
      | (refine step_callG rfl _ rfl 32 _ Tryd.func32 (by kernel_rfl) (by kernel_rfl) _ _ rfl #[.int .u32 (Z : Nat)] (by simp [Act.eval, Act.put]) _ (KF.out _) ?_; rintro e w2 ⟨A6, c6, rfl, hx6, ho6⟩; refine ⟨_, rfl, ?_⟩)
      | (refine step_callG rfl _ rfl 10 _ Tryd.func10 (by kernel_rfl) (by kernel_rfl) _ _ rfl #[.slice A2 4 (c - 12), .slice A6 4 c6] (by simp [Act.eval, Act.put]) _ (KE.out A6 c6 _ (by repeat (first | with_reducible exact Below.refl _ _ | with_reducible assumption | with_reducible refine ExtD ?_ | with_reducible refine ExtDN ?_ | with_reducible refine ExtA ?_ | (with_reducible refine ExtR ?_ ?_; (first | omega | (dsimp only; omega) | (simp; done) | (simp; omega))) | (with_reducible refine ExtS ?_ ?_; (first | omega | (dsimp only; omega) | (simp; done) | (simp; omega))) | with_reducible refine Ext.tr ?_ (by with_reducible assumption))) (rd_own ho6)) ?_; rintro e w3 ⟨rfl, hx3⟩; refine ⟨_, rfl, ?_⟩))
    all_goals
      go_wp2_with fail
      go_meet
      case rel => exact ⟨rfl, (by repeat (first | with_reducible exact Below.refl _ _ | with_reducible assumption | with_reducible refine ExtD ?_ | with_reducible refine ExtDN ?_ | with_reducible refine ExtA ?_ | (with_reducible refine ExtR ?_ ?_; (first | omega | (dsimp only; omega) | (simp; done) | (simp; omega))) | (with_reducible refine ExtS ?_ ?_; (first | omega | (dsimp only; omega) | (simp; done) | (simp; omega))) | with_reducible refine Ext.tr ?_ (by with_reducible assumption)))⟩
  case rest =>
    obtain ⟨rfl, hx1⟩ := hcut
    have f1 := hx1.cell e1
    have f2 := hx1.cell e2
    have f3 := hx1.cell e3
    have q1 : IntKind.i64.wrap (256 * (x3 : Int)) = 256 * (x3 : Int) := wraps_i64 _ (by omega) (by omega)
    obtain ⟨N, hN⟩ : ∃ N, N = x2 + 256 * x3 := ⟨_, rfl⟩
    have q2 : IntKind.i64.wrap ((x2 : Int) + 256 * (x3 : Int)) = (N : Int) := by rw [hN, wraps_i64 _ (by omega) (by omega)]; omega
    rw [← hN] at hn0
    clear hN
    go_wp2_with fail
    go_quiet (fail)
    have hx2 : Ext w (wc.drewN nq) := ExtDN hx1
    have g10 := hx2.cell e10
    have g11 := hx2.cell e11
    go_upto_region 8 with fail
    clear hx1 f1 f2 f3 q1 q2
    generalize wc.drewN nq = w5 at *
    go_cut [7] (fun v7 wc => HiQ w x10 x11 v7 wc)
    case first =>
      by_cases d10 : x10 = 0
      · have k10 : ((x10 : Int) == 0) = true := by simp; omega
        by_cases d11 : x11 = 0
        · have k11 : ((x11 : Int) == 0) = true := by simp; omega
          go_wp2_with fail
          go_meet
          case rel => exact ⟨by rw [decide_eq_true d10, decide_eq_true d11]; rfl, (by repeat (first | with_reducible exact Below.refl _ _ | with_reducible assumption | with_reducible refine ExtD ?_ | with_reducible refine ExtDN ?_ | with_reducible refine ExtA ?_ | (with_reducible refine ExtR ?_ ?_; (first | omega | (dsimp only; omega) | (simp; done) | (simp; omega))) | (with_reducible refine ExtS ?_ ?_; (first | omega | (dsimp only; omega) | (simp; done) | (simp; omega))) | with_reducible refine Ext.tr ?_ (by with_reducible assumption)))⟩
        · have k11 : ((x11 : Int) == 0) = false := by simp; omega
          go_wp2_with fail
          go_meet
          case rel => exact ⟨by rw [decide_eq_true d10, decide_eq_false d11]; simp [bne, k11], (by repeat (first | with_reducible exact Below.refl _ _ | with_reducible assumption | with_reducible refine ExtD ?_ | with_reducible refine ExtDN ?_ | with_reducible refine ExtA ?_ | (with_reducible refine ExtR ?_ ?_; (first | omega | (dsimp only; omega) | (simp; done) | (simp; omega))) | (with_reducible refine ExtS ?_ ?_; (first | omega | (dsimp only; omega) | (simp; done) | (simp; omega))) | with_reducible refine Ext.tr ?_ (by with_reducible assumption)))⟩
      · have k10 : ((x10 : Int) == 0) = false := by simp; omega
        go_wp2_with fail
        go_meet
        case rel => exact ⟨by rw [decide_eq_false d10]; rfl, (by repeat (first | with_reducible exact Below.refl _ _ | with_reducible assumption | with_reducible refine ExtD ?_ | with_reducible refine ExtDN ?_ | with_reducible refine ExtA ?_ | (with_reducible refine ExtR ?_ ?_; (first | omega | (dsimp only; omega) | (simp; done) | (simp; omega))) | (with_reducible refine ExtS ?_ ?_; (first | omega | (dsimp only; omega) | (simp; done) | (simp; omega))) | with_reducible refine Ext.tr ?_ (by with_reducible assumption)))⟩
    case rest =>
      obtain ⟨rfl, hx3⟩ := hcut
      have hH : Hid ((!decide (x10 = 0) || !decide (x11 = 0)) = decide (x10 ≠ 0 ∨ x11 ≠ 0)) := Lib.hid (by by_cases a : x10 = 0 <;> by_cases b : x11 = 0 <;> simp [a, b])
      rw [hH.out]
      clear g10 g11 hx2
      go_wp2_with fail
      go_loopw [8, 9] (fun c8 c9 wr => RkR w l c8 c9 wr) (fun _ c9 _ => (intOf c9 - 3).toNat)
      case atStart => exact ⟨0, rfl, by omega, rfl, hx3⟩
      case round =>
        obtain ⟨j, rfl, hj, rfl, hx⟩ := hrel
        by_cases hlt : j < 6
        · have hst := rs_step (l := l) (j := j) (by have := Hlen.out; omega) hlt
          have hbd := rs_bd l j (by omega)
          obtain ⟨_, _, hA1, ei⟩ := at_u8 HRw.out (show 9 - j < n by omega)
          injection hA1 with hA1
          injection hA1 with hb ho
          subst hb ho
          obtain ⟨z, hz⟩ : ∃ z, z = (l.getD (9 - j) 0).toNat := ⟨_, rfl⟩
          have hzb : z ≤ 255 := by have := (l.getD (9 - j) 0).toNat_lt; omega
          rw [← hz] at ei hst
          have ei2 : wr.cell? ⟨b, o + (9 - j), none⟩ = some (.int .u8 (z : Nat)) := hx.cell ei
          have HST := Lib.hid hst
          clear hst ei hz
          generalize un8 ((l.drop (10 - j)).take j) = acc at *
          have u1 : decide ((4 : Int) ≤ 9 - (j : Int)) = true := by simp; omega
          have u2 : decide ((j : Int) ≤ 9) = true := by simp; omega
          have u3 : (9 - (j : Int)).toNat = 9 - j := by omega
          go_wp2_with fail
          go_roundw
          case rel => exact ⟨j + 1, congrArg (Value.int .i64) (by omega), by omega, congrArg (Value.int .i64) (by rw [HST.out]; omega), hx⟩
          case measure => simp [intOf]; omega
        · obtain rfl : j = 6 := by omega
          have hSb := rs_bd l 6 (by omega)
          rw [show 10 - 6 = 4 from rfl] at hSb ⊢
          generalize un8 ((l.drop 4).take 6) = S at *
          have g1 : wr.cell? ⟨b, o + 1, none⟩ = some (.int .u8 (x1 : Nat)) := hx.cell e1
          have HE : Hid (PkT (fpeek l) = PkT (if x1 < 1 ∨ 7 < x1 ∨ 16384 < N ∨ (x10 ≠ 0 ∨ x11 ≠ 0) ∨ 1099511627776 < S then (0, 0, 0, 63) else (x1, S, 20 + N, 0))) := Lib.hid (by
            rw [hf1.out, hk0.out, hn0.out, Hsp.out]
            by_cases hh : x10 ≠ 0 ∨ x11 ≠ 0
            · rw [if_pos (by omega), if_pos (by omega)]
            · have z0 : x10 = 0 := by omega
              have z1 : x11 = 0 := by omega
              rw [z0, z1]
              simp)
          have q0 : decide ((4 : Int) ≤ 9 - 6) = false := by decide
          by_cases c1 : x1 < 1
          · have u1 : decide ((x1 : Int) < 1) = true := by simp; omega
            go_wp2_with fail
            ((try simp only [Exit.inBlock, Exit.then]); refine bodyPost_ret (results_tmp4 rfl _ _ _) rfl ?_)
            exact ⟨by rw [HE.out, if_pos (by omega)]; rfl, (by repeat (first | with_reducible exact Below.refl _ _ | with_reducible assumption | with_reducible refine ExtD ?_ | with_reducible refine ExtDN ?_ | with_reducible refine ExtA ?_ | (with_reducible refine ExtR ?_ ?_; (first | omega | (dsimp only; omega) | (simp; done) | (simp; omega))) | (with_reducible refine ExtS ?_ ?_; (first | omega | (dsimp only; omega) | (simp; done) | (simp; omega))) | with_reducible refine Ext.tr ?_ (by with_reducible assumption)))⟩
          have u1 : decide ((x1 : Int) < 1) = false := by simp; omega
          by_cases c2 : 7 < x1
          · have u2 : decide ((7 : Int) < (x1 : Int)) = true := by simp; omega
            go_wp2_with fail
            ((try simp only [Exit.inBlock, Exit.then]); refine bodyPost_ret (results_tmp4 rfl _ _ _) rfl ?_)
            exact ⟨by rw [HE.out, if_pos (by omega)]; rfl, (by repeat (first | with_reducible exact Below.refl _ _ | with_reducible assumption | with_reducible refine ExtD ?_ | with_reducible refine ExtDN ?_ | with_reducible refine ExtA ?_ | (with_reducible refine ExtR ?_ ?_; (first | omega | (dsimp only; omega) | (simp; done) | (simp; omega))) | (with_reducible refine ExtS ?_ ?_; (first | omega | (dsimp only; omega) | (simp; done) | (simp; omega))) | with_reducible refine Ext.tr ?_ (by with_reducible assumption)))⟩
          have u2 : decide ((7 : Int) < (x1 : Int)) = false := by simp; omega
          by_cases c3 : 16384 < N
          · have u3 : decide ((16384 : Int) < (N : Int)) = true := by simp; omega
            go_wp2_with fail
            ((try simp only [Exit.inBlock, Exit.then]); refine bodyPost_ret (results_tmp4 rfl _ _ _) rfl ?_)
            exact ⟨by rw [HE.out, if_pos (by omega)]; rfl, (by repeat (first | with_reducible exact Below.refl _ _ | with_reducible assumption | with_reducible refine ExtD ?_ | with_reducible refine ExtDN ?_ | with_reducible refine ExtA ?_ | (with_reducible refine ExtR ?_ ?_; (first | omega | (dsimp only; omega) | (simp; done) | (simp; omega))) | (with_reducible refine ExtS ?_ ?_; (first | omega | (dsimp only; omega) | (simp; done) | (simp; omega))) | with_reducible refine Ext.tr ?_ (by with_reducible assumption)))⟩
          have u3 : decide ((16384 : Int) < (N : Int)) = false := by simp; omega
          by_cases c4 : x10 ≠ 0 ∨ x11 ≠ 0
          · rw [decide_eq_true c4]
            go_wp2_with fail
            ((try simp only [Exit.inBlock, Exit.then]); refine bodyPost_ret (results_tmp4 rfl _ _ _) rfl ?_)
            exact ⟨by rw [HE.out, if_pos (by omega)]; rfl, (by repeat (first | with_reducible exact Below.refl _ _ | with_reducible assumption | with_reducible refine ExtD ?_ | with_reducible refine ExtDN ?_ | with_reducible refine ExtA ?_ | (with_reducible refine ExtR ?_ ?_; (first | omega | (dsimp only; omega) | (simp; done) | (simp; omega))) | (with_reducible refine ExtS ?_ ?_; (first | omega | (dsimp only; omega) | (simp; done) | (simp; omega))) | with_reducible refine Ext.tr ?_ (by with_reducible assumption)))⟩
          rw [decide_eq_false c4]
          by_cases c5 : 1099511627776 < S
          · have u5 : decide ((1099511627776 : Int) < (S : Int)) = true := by simp; omega
            go_wp2_with fail
            ((try simp only [Exit.inBlock, Exit.then]); refine bodyPost_ret (results_tmp4 rfl _ _ _) rfl ?_)
            exact ⟨by rw [HE.out, if_pos (by omega)]; rfl, (by repeat (first | with_reducible exact Below.refl _ _ | with_reducible assumption | with_reducible refine ExtD ?_ | with_reducible refine ExtDN ?_ | with_reducible refine ExtA ?_ | (with_reducible refine ExtR ?_ ?_; (first | omega | (dsimp only; omega) | (simp; done) | (simp; omega))) | (with_reducible refine ExtS ?_ ?_; (first | omega | (dsimp only; omega) | (simp; done) | (simp; omega))) | with_reducible refine Ext.tr ?_ (by with_reducible assumption)))⟩
          have u5 : decide ((1099511627776 : Int) < (S : Int)) = false := by simp; omega
          go_wp2_with fail
          ((try simp only [Exit.inBlock, Exit.then]); refine bodyPost_ret (results_tmp4 rfl _ _ _) rfl ?_)
          exact ⟨by rw [HE.out, if_neg (by omega)]; rfl, (by repeat (first | with_reducible exact Below.refl _ _ | with_reducible assumption | with_reducible refine ExtD ?_ | with_reducible refine ExtDN ?_ | with_reducible refine ExtA ?_ | (with_reducible refine ExtR ?_ ?_; (first | omega | (dsimp only; omega) | (simp; done) | (simp; omega))) | (with_reducible refine ExtS ?_ ?_; (first | omega | (dsimp only; omega) | (simp; done) | (simp; omega))) | with_reducible refine Ext.tr ?_ (by with_reducible assumption)))⟩
set_option maxRecDepth 100000 in
set_option maxHeartbeats 4000000 in
theorem rfdec_any (A : Option Addr) (n c : Nat) (l : List UInt8) (w : World) (hr : Rd w A n (u8s l)) (hnc : n ≤ c) (hn : n ≤ maxLen) :
    Calls Tryd.prog 25 #[.slice A n c] w (DcPost w (fdec l)) := by
  have hlen : l.length = n := by have := hr.1; rw [u8s_len] at this; exact this
  have KP := Lib.hid fun W (hx : Ext w W) => rpeek_any A n c l W (hr.ext hx) hnc hn
  by_cases he : (fpeek l).2.2.2 = 0
  case neg =>
    have hp := peek_bad he
    have hd : Hid (fdec l = ((0, 0, []), 0, (fpeek l).2.2.2)) := Lib.hid (by unfold fdec; rw [if_pos he])
    have KP2 : Hid (∀ W, Ext w W → Calls Tryd.prog 38 #[.slice A n c] W fun e w' => e = PkT (0, 0, 0, (fpeek l).2.2.2) ∧ Ext W w') := Lib.hid fun W hx => by
      have := KP.out W hx
      rw [hp] at this
      exact this
    have u1 : (((fpeek l).2.2.2 : Int) == 0) = false := by simp; omega
    unfold PkT at KP2
    dsimp only at KP2
    generalize (fpeek l).2.2.2 = E at *
    clear hlen hr hp he KP
    go_enter Tryd.func25, Tryd.ntmps25
    go_wp2_with (first | (with_reducible refine wpL_store_row rfl 52 (.tmp 2) (.tmp 19) rfl _ 52 _ _ rfl rfl b2 (three_size.trans three_size.symm) (three_one rfl rfl rfl) 3 fr_wide three_size ?_) | go_at_call 38; (with_reducible refine (KP2.out _ (by repeat (first | with_reducible exact Below.refl _ _ | with_reducible assumption | with_reducible refine ExtD ?_ | with_reducible refine ExtDN ?_ | with_reducible refine ExtA ?_ | (with_reducible refine ExtR ?_ ?_; (first | omega | (dsimp only; omega) | (simp; done) | (simp; omega))) | (with_reducible refine ExtS ?_ ?_; (first | omega | (dsimp only; omega) | (simp; done) | (simp; omega))) | with_reducible refine Ext.tr ?_ (by with_reducible assumption)))).mono ?_); rintro e w1 ⟨rfl, hx1⟩; have b2 : Blk w1 w.heap.size 52 #[.int .i64 0, .int .i64 0, .slice none 0 0] := BlkE (BlkN rfl) hx1)
    (try simp only [Exit.inBlock, Exit.then]); refine bodyPost_ret (v := .tuple #[.agg (frcells 0 0 none 0 0), .int .i64 0, .int .i64 (E : Nat)]) (res_row_tt rfl _ w.heap.size 52 _ 3 _ _ rfl rfl rfl ?_ fr_wide rfl) rfl ?_
    · exact Blk.setRow_ b2
    · exact dc_bad hd.out rfl (by repeat (first | with_reducible exact Below.refl _ _ | with_reducible assumption | with_reducible refine ExtD ?_ | with_reducible refine ExtDN ?_ | with_reducible refine ExtA ?_ | (with_reducible refine ExtR ?_ ?_; (first | omega | (dsimp only; omega) | (simp; done) | (simp; omega))) | (with_reducible refine ExtS ?_ ?_; (first | omega | (dsimp only; omega) | (simp; done) | (simp; omega))) | with_reducible refine Ext.tr ?_ (by with_reducible assumption)))
  obtain ⟨p1, p2, p3, p4, p5, p6, p7, p8⟩ := fpeek_ok he
  have hd0 : fdec l = if l.length < 20 + fn l then ((0, 0, []), 0, 60) else if (l.drop (16 + fn l)).take 4 ≠ four (csum ((l.drop 16).take (fn l))) then ((0, 0, []), 0, 62) else ((fk l, fs8 l, (l.drop 16).take (fn l)), 20 + fn l, 0) := by
    unfold fdec
    rw [if_neg (by simp [he]), p8]
  rw [p8] at KP
  unfold PkT at KP
  dsimp only at KP
  obtain ⟨N, hN0⟩ : ∃ N, N = fn l := ⟨_, rfl⟩
  rw [← hN0] at hd0 KP p6
  generalize fk l = k at *
  generalize fs8 l = s at *
  obtain ⟨SZ, hSZ⟩ : ∃ SZ, SZ = 20 + N := ⟨_, rfl⟩
  rw [← hSZ] at hd0 KP
  clear p1 p2 p3 p8 he hN0
  by_cases hs : n < SZ
  · rw [hlen, if_pos hs] at hd0
    have hd := Lib.hid hd0
    have u1 : decide (n < SZ) = true := by simpa using hs
    clear hd0 hlen hr hSZ
    go_enter Tryd.func25, Tryd.ntmps25
    go_wp2_with (first | (with_reducible refine wpL_store_row rfl 52 (.tmp 2) (.tmp 25) rfl _ 52 _ _ rfl rfl b2 (three_size.trans three_size.symm) (three_one rfl rfl rfl) 3 fr_wide three_size ?_) | go_at_call 38; (with_reducible refine (KP.out _ (by repeat (first | with_reducible exact Below.refl _ _ | with_reducible assumption | with_reducible refine ExtD ?_ | with_reducible refine ExtDN ?_ | with_reducible refine ExtA ?_ | (with_reducible refine ExtR ?_ ?_; (first | omega | (dsimp only; omega) | (simp; done) | (simp; omega))) | (with_reducible refine ExtS ?_ ?_; (first | omega | (dsimp only; omega) | (simp; done) | (simp; omega))) | with_reducible refine Ext.tr ?_ (by with_reducible assumption)))).mono ?_); rintro e w1 ⟨rfl, hx1⟩; have b2 : Blk w1 w.heap.size 52 #[.int .i64 0, .int .i64 0, .slice none 0 0] := BlkE (BlkN rfl) hx1)
    (try simp only [Exit.inBlock, Exit.then]); refine bodyPost_ret (v := .tuple #[.agg (frcells 0 0 none 0 0), .int .i64 0, .int .i64 60]) (res_row_tt rfl _ w.heap.size 52 _ 3 _ _ rfl rfl rfl ?_ fr_wide rfl) rfl ?_
    · exact Blk.setRow_ b2
    · exact dc_bad hd.out rfl (by repeat (first | with_reducible exact Below.refl _ _ | with_reducible assumption | with_reducible refine ExtD ?_ | with_reducible refine ExtDN ?_ | with_reducible refine ExtA ?_ | (with_reducible refine ExtR ?_ ?_; (first | omega | (dsimp only; omega) | (simp; done) | (simp; omega))) | (with_reducible refine ExtS ?_ ?_; (first | omega | (dsimp only; omega) | (simp; done) | (simp; omega))) | with_reducible refine Ext.tr ?_ (by with_reducible assumption)))
  have u1 : decide (n < SZ) = false := by simpa using hs
  rw [hlen, if_neg hs] at hd0
  obtain ⟨Q, hQ⟩ : ∃ Q, Q = 16 + N := ⟨_, rfl⟩
  rw [← hQ] at hd0
  have hQb : Q ≤ 16400 := by omega
  have hSb : SZ ≤ 16404 := by omega
  have e1 : (SZ : Int) - 4 = (Q : Int) := by omega
  have e1w : IntKind.i64.wrap (Q : Int) = (Q : Int) := wraps_i64 _ (by omega) (by omega)
  obtain ⟨A1, hs1, hr1⟩ := slice_lh A n c 16 Q (by omega) (by omega) hnc
  rw [show Q - 16 = N by omega] at hs1 hr1
  have hs1' : ∀ W : World, (Instr.slice 27 (.slice A n c) (some (.int .i64 16)) (some (.int .i64 (Q : Nat))) none).run Tryd.prog W = .ok (.slice A1 N (c - 16)) W := fun W => hs1 W
  obtain ⟨A2, hs2, hr2⟩ := slice_lh A n c Q SZ (by omega) (by omega) hnc
  rw [show SZ - Q = 4 by omega] at hs2 hr2
  have hl2 : ((l.drop 16).take N).length = N := by rw [List.length_take, List.length_drop]; omega
  have KC := Lib.hid fun W (hx : Ext w W) => copy_any A1 N (c - 16) ((l.drop 16).take N) W (hr1 W l (hr.ext hx)) (by omega)
  unfold NewB at KC
  rw [hl2] at KC
  have KS := Lib.hid fun B c2 W (h : Rd W B N (u8s ((l.drop 16).take N))) => rsum_any B N c2 ((l.drop 16).take N) W h (by simp only [maxLen]; omega)
  have KF := Lib.hid fun W => rfour_any (csum ((l.drop 16).take N)) W (csum_lt _)
  unfold NewB at KF
  rw [show (four (csum ((l.drop 16).take N))).length = 4 from rfl] at KF
  have KE := Lib.hid fun B c2 W (hx : Ext w W) (h : Rd W B 4 (u8s (four (csum ((l.drop 16).take N))))) => same_any A2 B 4 (c - Q) 4 c2 ((l.drop Q).take 4) (four (csum ((l.drop 16).take N))) W (hr2 W l (hr.ext hx)) h (by decide)
  have Hl2 := Lib.hid hl2
  have mixed : Tryd.prog.follows Departure.mixedOrders = true := by kernel_rfl
  obtain ⟨D, hD⟩ : ∃ D, D = decide ((l.drop Q).take 4 = four (csum ((l.drop 16).take N))) := ⟨_, rfl⟩
  rw [← hD] at KE
  have hd : Hid (fdec l = if D = false then ((0, 0, []), 0, 62) else ((k, s, (l.drop 16).take N), SZ, 0)) := Lib.hid (by
    rw [hd0]
    by_cases hc : (l.drop Q).take 4 = four (csum ((l.drop 16).take N))
    · rw [if_neg (fun h => h hc), if_neg (by rw [hD]; simp [hc])]
    · rw [if_pos hc, if_pos (by rw [hD]; simp [hc])])
  generalize four (csum ((l.drop 16).take N)) = F at *
  generalize csum ((l.drop 16).take N) = Z at *
  generalize (l.drop 16).take N = body at *
  clear hd0 hlen hr hSZ hQ hs1 hr1 hr2 hl2 hD
  go_enter Tryd.func25, Tryd.ntmps25
  go_wp2_with (first
    | (go_at_call 38; (with_reducible refine (KP.out _ (by repeat (first | with_reducible exact Below.refl _ _ | with_reducible assumption | with_reducible refine ExtD ?_ | with_reducible refine ExtDN ?_ | with_reducible refine ExtA ?_ | (with_reducible refine ExtR ?_ ?_; (first | omega | (dsimp only; omega) | (simp; done) | (simp; omega))) | (with_reducible refine ExtS ?_ ?_; (first | omega | (dsimp only; omega) | (simp; done) | (simp; omega))) | with_reducible refine Ext.tr ?_ (by with_reducible assumption)))).mono ?_); rintro e w1 ⟨rfl, hx1⟩; have b2 : Blk w1 w.heap.size 52 #[.int .i64 0, .int .i64 0, .slice none 0 0] := BlkE (BlkN rfl) hx1)
    | (go_at_call 14; (with_reducible refine (KC.out _ (by repeat (first | with_reducible exact Below.refl _ _ | with_reducible assumption | with_reducible refine ExtD ?_ | with_reducible refine ExtDN ?_ | with_reducible refine ExtA ?_ | (with_reducible refine ExtR ?_ ?_; (first | omega | (dsimp only; omega) | (simp; done) | (simp; omega))) | (with_reducible refine ExtS ?_ ?_; (first | omega | (dsimp only; omega) | (simp; done) | (simp; omega))) | with_reducible refine Ext.tr ?_ (by with_reducible assumption)))).mono ?_); rintro e w2 ⟨A3, c3, rfl, hx2, ho2⟩; have b2 := BlkE b2 hx2))
  go_cut [40] (fun v40 wc => v40 = .bool (!D) ∧ Ext w2 wc)
  case first =>
    have hw2 : Ext w w2 := ((ExtA (Ext.rfl' w)).tr hx1).tr hx2
    have R2 := Lib.hid (rd_own ho2)
    go_region_law_o (first
      | (refine step_callG rfl _ rfl 33 _ Tryd.func33 (by kernel_rfl) (by kernel_rfl) _ _ rfl #[.slice A3 N c3] (by simp [Act.eval, Act.put]) _ (KS.out A3 c3 _ (R2.out.ext (ExtD (Ext.rfl' w2)))) ?_; rintro e w3 ⟨rfl, hx3⟩; refine ⟨_, rfl, ?_⟩)
      | (refine step_callG rfl _ rfl 32 _ Tryd.func32 (by kernel_rfl) (by kernel_rfl) _ _ rfl #[.int .u32 (Z : Nat)] (by simp [Act.eval, Act.put]) _ (KF.out _) ?_; rintro e w4 ⟨A6, c6, rfl, hx6, ho6⟩; refine ⟨_, rfl, ?_⟩)
      | (refine step_callG rfl _ rfl 10 _ Tryd.func10 (by kernel_rfl) (by kernel_rfl) _ _ rfl #[.slice A2 4 (c - Q), .slice A6 4 c6] (by simp [Act.eval, Act.put]) _ (KE.out A6 c6 _ (hw2.tr (by repeat (first | with_reducible exact Below.refl _ _ | with_reducible assumption | with_reducible refine ExtD ?_ | with_reducible refine ExtDN ?_ | with_reducible refine ExtA ?_ | (with_reducible refine ExtR ?_ ?_; (first | omega | (dsimp only; omega) | (simp; done) | (simp; omega))) | (with_reducible refine ExtS ?_ ?_; (first | omega | (dsimp only; omega) | (simp; done) | (simp; omega))) | with_reducible refine Ext.tr ?_ (by with_reducible assumption)))) (rd_own ho6)) ?_; rintro e w5 ⟨rfl, hx5⟩; refine ⟨_, rfl, ?_⟩))
    all_goals
      go_wp2_with fail
      go_meet
      case rel => exact ⟨rfl, (by repeat (first | with_reducible exact Below.refl _ _ | with_reducible assumption | with_reducible refine ExtD ?_ | with_reducible refine ExtDN ?_ | with_reducible refine ExtA ?_ | (with_reducible refine ExtR ?_ ?_; (first | omega | (dsimp only; omega) | (simp; done) | (simp; omega))) | (with_reducible refine ExtS ?_ ?_; (first | omega | (dsimp only; omega) | (simp; done) | (simp; omega))) | with_reducible refine Ext.tr ?_ (by with_reducible assumption)))⟩
  case rest =>
    obtain ⟨rfl, hx3⟩ := hcut
    have b2 := BlkE b2 hx3
    have ho3 := own_ext hx3 ho2
    have hX : Ext w wc := (((ExtA (Ext.rfl' w)).tr hx1).tr hx2).tr hx3
    have hw1 : w.heap.size ≤ w1.heap.size := ((ExtA (Ext.rfl' w)).tr hx1).size
    clear hx1 hx2 hx3 ho2
    cases D with
    | false =>
      go_wp2_with (with_reducible refine wpL_store_row rfl 52 (.tmp 2) (.tmp 41) rfl _ 52 _ _ rfl rfl b2 (three_size.trans three_size.symm) (three_one rfl rfl rfl) 3 fr_wide three_size ?_)
      (try simp only [Exit.inBlock, Exit.then]); refine bodyPost_ret (v := .tuple #[.agg (frcells 0 0 none 0 0), .int .i64 0, .int .i64 62]) (res_row_tt rfl _ w.heap.size 52 _ 3 _ _ rfl rfl rfl ?_ fr_wide rfl) rfl ?_
      · exact Blk.setRow_ b2
      · exact dc_bad (by rw [hd.out]; rfl) rfl (by repeat (first | with_reducible exact Below.refl _ _ | with_reducible assumption | with_reducible refine ExtD ?_ | with_reducible refine ExtDN ?_ | with_reducible refine ExtA ?_ | (with_reducible refine ExtR ?_ ?_; (first | omega | (dsimp only; omega) | (simp; done) | (simp; omega))) | (with_reducible refine ExtS ?_ ?_; (first | omega | (dsimp only; omega) | (simp; done) | (simp; omega))) | with_reducible refine Ext.tr ?_ (by with_reducible assumption)))
    | true =>
      go_wp2_with (with_reducible refine wpL_store_row rfl 52 (.tmp 2) (.tmp 45) rfl _ 52 _ _ rfl rfl b2 (three_size.trans three_size.symm) (three_one rfl rfl rfl) 3 fr_wide three_size ?_)
      (try simp only [Exit.inBlock, Exit.then]); refine bodyPost_ret (v := .tuple #[.agg (frcells k s A3 N c3), .int .i64 (SZ : Nat), .int .i64 0]) (res_row_tt rfl _ w.heap.size 52 _ 3 _ _ rfl rfl rfl ?_ fr_wide rfl) rfl ?_
      · exact Blk.setRow_ b2
      · rw [hd.out, if_neg (by decide)]
        refine ⟨A3, c3, ?_, (by repeat (first | with_reducible exact Below.refl _ _ | with_reducible assumption | with_reducible refine ExtD ?_ | with_reducible refine ExtDN ?_ | with_reducible refine ExtA ?_ | (with_reducible refine ExtR ?_ ?_; (first | omega | (dsimp only; omega) | (simp; done) | (simp; omega))) | (with_reducible refine ExtS ?_ ?_; (first | omega | (dsimp only; omega) | (simp; done) | (simp; omega))) | with_reducible refine Ext.tr ?_ (by with_reducible assumption))), ?_, ?_⟩
        · dsimp only
          rw [Hl2.out]
          rfl
        · dsimp only
          rw [Hl2.out]
          exact own_base (own_row_apart ho3 b2) hw1
        · dsimp only
          rw [Hl2.out]
          exact own_capB ho3
end Go.Proofs.YtjomgppbialeoaaDoor
