/-
  The walk of the reference's Times.
-/
/-
  The walk of the reference's Over.
-/
import Derived.Test.YtjomgppbialeoaaGreatLongW1
import Derived.Test.YtjomgppbialeoaaGreatLongP
import Derived.Test.YtjomgppbialeoaaGreatSteps
import Derived.Laws.ShiftsVarLaws
namespace Go.Proofs.YtjomgppbialeoaaGreat
open Go.RowKit
set_option linter.unusedVariables false
set_option linter.unusedSimpArgs false
def TimB (w : World) (a b : Bool) (m n Z : Nat) (wr : World) : Prop :=
  Ext w wr ∧ Blk wr w.heap.size 64 (arrA a (dg m)) ∧ Blk wr (w.heap.size + 1) 64 (arrA b (dg n)) ∧ Blk wr (w.heap.size + 1 + 1) 64 (arrA false (fun _ => 0)) ∧
    Blk wr (w.heap.size + 1 + 1 + 1) 64 (arrA false (dg Z))
def TimR1 (w : World) (a b : Bool) (m n : Nat) (i : Value) (wr : World) : Prop := ∃ k : Nat, k ≤ 8 ∧ i = .int .i64 k ∧ TimB w a b m n (m % 65536 ^ k * n) wr
def TimR2 (w : World) (a b : Bool) (m n i : Nat) (c j : Value) (wr : World) : Prop :=
  ∃ k Z x : Nat, k ≤ 8 ∧ j = .int .i64 k ∧ c = .int .u64 (x : Int) ∧ x < 65536 ∧ Z + x * 65536 ^ (i + k) = m % 65536 ^ i * n + dg m i * (n % 65536 ^ k) * 65536 ^ i ∧ TimB w a b m n Z wr
def TimR3 (w : World) (a b : Bool) (m n i : Nat) (c j : Value) (wr : World) : Prop :=
  ∃ k Z x : Nat, k ≤ 16 ∧ j = .int .i64 k ∧ c = .int .u64 (x : Int) ∧ x < 65536 ∧ Z + x * 65536 ^ k = m % 65536 ^ (i + 1) * n ∧ TimB w a b m n Z wr
theorem timB_set {w wr : World} {a b : Bool} {m n Z k x : Nat} (h : TimB w a b m n Z wr) (hk : k < 16) (hx : x < 65536) (q : Nat) :
    TimB w a b m n (setD Z k x) ((wr.drewN q).setCell ⟨w.heap.size + 1 + 1 + 1, 1 + k, none⟩ (.int .u64 (x : Int))) := by
  obtain ⟨hx0, b0, b1, b2, b3⟩ := h
  refine ⟨(by repeat (first | with_reducible exact Below.refl _ _ | with_reducible assumption | with_reducible refine ExtD ?_ | with_reducible refine ExtDN ?_ | with_reducible refine ExtA ?_ | (with_reducible refine ExtR ?_ ?_; (first | omega | (dsimp only; omega) | (simp; done) | (simp; omega))) | (with_reducible refine ExtS ?_ ?_; (first | omega | (dsimp only; omega) | (simp; done) | (simp; omega))) | with_reducible refine Ext.tr ?_ (by with_reducible assumption))), (by repeat (first | with_reducible assumption | (with_reducible refine BlkN ?_; (first | rfl | (first | omega | (dsimp only; omega) | (simp; done) | (simp; omega)))) | with_reducible refine BlkD ?_ | with_reducible refine BlkDN ?_ | with_reducible refine BlkA ?_ | with_reducible refine BlkE ?_ (by with_reducible assumption) | with_reducible refine BlkS ?_ | (with_reducible refine BlkF ?_ ?_; (first | omega | (dsimp only; omega) | (simp; done) | (simp; omega))) | (with_reducible refine BlkR ?_ ?_; (first | omega | (dsimp only; omega) | (simp; done) | (simp; omega))))), (by repeat (first | with_reducible assumption | (with_reducible refine BlkN ?_; (first | rfl | (first | omega | (dsimp only; omega) | (simp; done) | (simp; omega)))) | with_reducible refine BlkD ?_ | with_reducible refine BlkDN ?_ | with_reducible refine BlkA ?_ | with_reducible refine BlkE ?_ (by with_reducible assumption) | with_reducible refine BlkS ?_ | (with_reducible refine BlkF ?_ ?_; (first | omega | (dsimp only; omega) | (simp; done) | (simp; omega))) | (with_reducible refine BlkR ?_ ?_; (first | omega | (dsimp only; omega) | (simp; done) | (simp; omega))))), (by repeat (first | with_reducible assumption | (with_reducible refine BlkN ?_; (first | rfl | (first | omega | (dsimp only; omega) | (simp; done) | (simp; omega)))) | with_reducible refine BlkD ?_ | with_reducible refine BlkDN ?_ | with_reducible refine BlkA ?_ | with_reducible refine BlkE ?_ (by with_reducible assumption) | with_reducible refine BlkS ?_ | (with_reducible refine BlkF ?_ ?_; (first | omega | (dsimp only; omega) | (simp; done) | (simp; omega))) | (with_reducible refine BlkR ?_ ?_; (first | omega | (dsimp only; omega) | (simp; done) | (simp; omega))))), ?_⟩
  have e : arrA false (dg (setD Z k x)) = arrA false (fun j => if j = k then x else dg Z j) := arr_ext fun j _ => dg_setD Z k x j hx
  rw [e, ← arr_set _ _ _ _ hk]
  exact (by repeat (first | with_reducible assumption | (with_reducible refine BlkN ?_; (first | rfl | (first | omega | (dsimp only; omega) | (simp; done) | (simp; omega)))) | with_reducible refine BlkD ?_ | with_reducible refine BlkDN ?_ | with_reducible refine BlkA ?_ | with_reducible refine BlkE ?_ (by with_reducible assumption) | with_reducible refine BlkS ?_ | (with_reducible refine BlkF ?_ ?_; (first | omega | (dsimp only; omega) | (simp; done) | (simp; omega))) | (with_reducible refine BlkR ?_ ?_; (first | omega | (dsimp only; omega) | (simp; done) | (simp; omega)))))
theorem prod_dg (m n i j : Nat) : dg m i * dg n j ≤ 65535 * 65535 := Nat.mul_le_mul (by have := dg_lt m i; omega) (by have := dg_lt n j; omega)
set_option maxHeartbeats 4000000 in
theorem times_any (a b : Bool) (m n : Nat) (w : World) (hm : m < 65536 ^ 8) (hn : n < 65536 ^ 8) :
    Calls Tryz.prog 35 #[longV a m, longV b n] w fun e w' => e = .returned (longV (a != b) (m * n)) ∧ Ext w w' := by
  have Hm := Lib.hid hm
  have Hn := Lib.hid hn
  clear hm hn
  have z2 := arr_zero false
  have Z0 := Lib.hid (show arrA false (fun _ => 0) = arrA false (dg (m % 65536 ^ 0 * n)) from arr_ext fun j _ => by simp [dg, Nat.mod_one])
  unfold longV
  go_enter Tryz.func35, Tryz.ntmps35
  go_wp2_with (with_reducible refine wpL_store_new rfl 64 (.tmp 5) (.tmp 12) rfl (w.heap.size + 1 + 1 + 1) 64 (arrA false fun _ => 0) (arrA false fun _ => 0) rfl rfl (by simp) (by rw [arr_size]) (arr_one _ _) 17 long_wide (arr_size _ _) ?_)
  clear z2
  go_loopw [6] (fun i wr => TimR1 w a b m n i wr) (fun i _ => 8 - (intOf i).toNat)
  case atStart => exact ⟨0, by omega, rfl, (by repeat (first | with_reducible exact Below.refl _ _ | with_reducible assumption | with_reducible refine ExtD ?_ | with_reducible refine ExtDN ?_ | with_reducible refine ExtA ?_ | (with_reducible refine ExtR ?_ ?_; (first | omega | (dsimp only; omega) | (simp; done) | (simp; omega))) | (with_reducible refine ExtS ?_ ?_; (first | omega | (dsimp only; omega) | (simp; done) | (simp; omega))) | with_reducible refine Ext.tr ?_ (by with_reducible assumption))), (by repeat (first | with_reducible assumption | (with_reducible refine BlkN ?_; (first | rfl | (first | omega | (dsimp only; omega) | (simp; done) | (simp; omega)))) | with_reducible refine BlkD ?_ | with_reducible refine BlkDN ?_ | with_reducible refine BlkA ?_ | with_reducible refine BlkE ?_ (by with_reducible assumption) | with_reducible refine BlkS ?_ | (with_reducible refine BlkF ?_ ?_; (first | omega | (dsimp only; omega) | (simp; done) | (simp; omega))) | (with_reducible refine BlkR ?_ ?_; (first | omega | (dsimp only; omega) | (simp; done) | (simp; omega))))), (by repeat (first | with_reducible assumption | (with_reducible refine BlkN ?_; (first | rfl | (first | omega | (dsimp only; omega) | (simp; done) | (simp; omega)))) | with_reducible refine BlkD ?_ | with_reducible refine BlkDN ?_ | with_reducible refine BlkA ?_ | with_reducible refine BlkE ?_ (by with_reducible assumption) | with_reducible refine BlkS ?_ | (with_reducible refine BlkF ?_ ?_; (first | omega | (dsimp only; omega) | (simp; done) | (simp; omega))) | (with_reducible refine BlkR ?_ ?_; (first | omega | (dsimp only; omega) | (simp; done) | (simp; omega))))), (by repeat (first | with_reducible assumption | (with_reducible refine BlkN ?_; (first | rfl | (first | omega | (dsimp only; omega) | (simp; done) | (simp; omega)))) | with_reducible refine BlkD ?_ | with_reducible refine BlkDN ?_ | with_reducible refine BlkA ?_ | with_reducible refine BlkE ?_ (by with_reducible assumption) | with_reducible refine BlkS ?_ | (with_reducible refine BlkF ?_ ?_; (first | omega | (dsimp only; omega) | (simp; done) | (simp; omega))) | (with_reducible refine BlkR ?_ ?_; (first | omega | (dsimp only; omega) | (simp; done) | (simp; omega))))), by rw [← Z0.out]; exact (by repeat (first | with_reducible assumption | (with_reducible refine BlkN ?_; (first | rfl | (first | omega | (dsimp only; omega) | (simp; done) | (simp; omega)))) | with_reducible refine BlkD ?_ | with_reducible refine BlkDN ?_ | with_reducible refine BlkA ?_ | with_reducible refine BlkE ?_ (by with_reducible assumption) | with_reducible refine BlkS ?_ | (with_reducible refine BlkF ?_ ?_; (first | omega | (dsimp only; omega) | (simp; done) | (simp; omega))) | (with_reducible refine BlkR ?_ ?_; (first | omega | (dsimp only; omega) | (simp; done) | (simp; omega)))))⟩
  case round =>
    obtain ⟨i, hi, rfl, hB⟩ := hrel
    by_cases hlt : i < 8
    · obtain ⟨wo, rfl⟩ : ∃ wo : World, wo = wr := ⟨_, rfl⟩
      have hdec : decide ((i : Int) < 8) = true := by simp; omega
      go_wp2_with fail
      go_loopw [7, 8] (fun c j wr => TimR2 w a b m n i c j wr) (fun _ j _ => 8 - (intOf j).toNat)
      case atStart => exact ⟨0, _, 0, by omega, rfl, rfl, by omega, by simp [Nat.mod_one], hB⟩
      case round =>
        obtain ⟨j, Z, c, hj, rfl, rfl, hc, hV, hB2⟩ := hrel
        have HV := Lib.hid hV
        have HB2 := Lib.hid hB2
        clear hV
        by_cases hlj : j < 8
        · obtain ⟨hx, b0, b1, b2, b3⟩ := hB2
          have k0 := (b0.cell (1 + i)).trans (arr_get _ _ i (by omega))
          have k1 := (b1.cell (1 + j)).trans (arr_get _ _ j (by omega))
          have k3 := (b3.cell (1 + (i + j))).trans (arr_get _ _ (i + j) (by omega))
          have f3 := b3.frozen (1 + (i + j))
          have hpd := prod_dg m n i j
          have hdz := dg_lt Z (i + j)
          obtain ⟨t, Ht⟩ : ∃ t, Hid (t = dg m i * dg n j) := ⟨_, rfl⟩
          rw [← Ht.out] at hpd
          have q0 : IntKind.u64.wrap (((dg m i : Nat) : Int) * ((dg n j : Nat) : Int)) = (t : Int) := by
            rw [show ((dg m i : Nat) : Int) * ((dg n j : Nat) : Int) = (t : Int) by rw [Ht.out]; simp, IntKind.wrap_u64]; omega
          have q1 : IntKind.u64.wrap (((dg Z (i + j) : Nat) : Int) + (t : Int)) = ((dg Z (i + j) : Nat) : Int) + (t : Int) := by rw [IntKind.wrap_u64]; omega
          have q2 : IntKind.u64.wrap (((dg Z (i + j) : Nat) : Int) + (t : Int) + (c : Int)) = ((dg Z (i + j) : Nat) : Int) + (t : Int) + (c : Int) := by rw [IntKind.wrap_u64]; omega
          have q3 : IntKind.i64.wrap ((i : Int) + (j : Int)) = (i : Int) + (j : Int) := by rw [IntKind.wrap_i64]; omega
          have q4 : (0 : Int) ≤ (i : Int) + (j : Int) := by omega
          have q5 : ((i : Int) + (j : Int)).toNat = i + j := by omega
          have q6 : i + j < 16 := by omega
          go_wp2_with fail
          go_quiet (fail)
          clear q0 q1 q2 q3 q5
          have hcs := carry_small _ _ _ hdz hpd hc
          have r1 : (((dg Z (i + j) : Nat) : Int) + (t : Int) + (c : Int)) % 65536 = (((dg Z (i + j) + t + c) % 65536 : Nat) : Int) := by omega
          have r2 : (((dg Z (i + j) : Nat) : Int) + (t : Int) + (c : Int)) / 65536 = (((dg Z (i + j) + t + c) / 65536 : Nat) : Int) := by omega
          obtain ⟨x, Hx⟩ : ∃ x, Hid (x = (dg Z (i + j) + t + c) % 65536) := ⟨_, rfl⟩
          obtain ⟨y, Hy⟩ : ∃ y, Hid (y = (dg Z (i + j) + t + c) / 65536) := ⟨_, rfl⟩
          rw [← Hx.out] at r1
          rw [← Hy.out] at r2 hcs
          go_wp2_with fail
          go_roundw
          case rel =>
            refine ⟨j + 1, setD Z (i + j) x, y, by omega, by go_num, by rw [r2], hcs, ?_, timB_set HB2.out q6 (by rw [Hx.out]; omega) _⟩
            rw [Hx.out, Hy.out, Ht.out]
            exact row_next m n i j Z c HV.out
          case measure => simp [intOf]; omega
        · have hj8 : j = 8 := by omega
          subst hj8
          rw [show ((8 : Nat) : Int) = 8 from rfl]
          have hV8 := HV.out
          rw [row_done m n i Hn.out] at hV8
          have HV8 := Lib.hid hV8
          have hpp := prod16 m n (i + 1) Hm.out Hn.out
          have Hpp := Lib.hid hpp
          clear hB2 hV8 hpp
          go_wp2_with fail
          obtain ⟨wo2, rfl⟩ : ∃ wo : World, wo = wr := ⟨_, rfl⟩
          go_loopw [7, 10] (fun c j wr => TimR3 w a b m n i c j wr) (fun _ j _ => 16 - (intOf j).toNat)
          case atStart => exact ⟨i + 8, Z, c, by omega, by go_num, rfl, hc, HV8.out, HB2.out⟩
          case round =>
            clear hc
            obtain ⟨k, Z, c, hk, rfl, rfl, hc, hV, hB3⟩ := hrel
            have HV3 := Lib.hid hV
            have HB3 := Lib.hid hB3
            clear hV
            by_cases hgo : k < 16 ∧ 0 < c
            · obtain ⟨hk16, hc0⟩ := hgo
              obtain ⟨hx, b0, b1, b2, b3⟩ := hB3
              have k3 := (b3.cell (1 + k)).trans (arr_get _ _ k hk16)
              have f3 := b3.frozen (1 + k)
              have hdz := dg_lt Z k
              have kk : (0 : Int) < (c : Int) := by omega
              have r1 : (((dg Z k : Nat) : Int) + (c : Int)) % 65536 = (((dg Z k + 0 + c) % 65536 : Nat) : Int) := by omega
              have r2 : (((dg Z k : Nat) : Int) + (c : Int)) / 65536 = (((dg Z k + 0 + c) / 65536 : Nat) : Int) := by omega
              have hcs : (dg Z k + 0 + c) / 65536 < 65536 := by omega
              obtain ⟨x, Hx⟩ : ∃ x, Hid (x = (dg Z k + 0 + c) % 65536) := ⟨_, rfl⟩
              obtain ⟨y, Hy⟩ : ∃ y, Hid (y = (dg Z k + 0 + c) / 65536) := ⟨_, rfl⟩
              rw [← Hx.out] at r1
              rw [← Hy.out] at r2 hcs
              go_wp2_with fail
              go_roundw
              case rel =>
                have hstep : setD Z k x + y * 65536 ^ (k + 1) = m % 65536 ^ (i + 1) * n := by rw [Hx.out, Hy.out, setD_step Z k c 0 _ HV3.out, Nat.zero_mul, Nat.add_zero]
                exact ⟨k + 1, setD Z k x, y, by omega, by go_num, by rw [r2], hcs, hstep, timB_set HB3.out hk16 (by rw [Hx.out]; omega) 0⟩
              case measure => simp [intOf]; omega
            · have hZ : Z = m % 65536 ^ (i + 1) * n := by
                by_cases hc0 : c = 0
                · have := HV3.out; rw [hc0, Nat.zero_mul, Nat.add_zero] at this; exact this
                · have hk16 : k = 16 := by omega
                  have h := HV3.out
                  have h2 := Hpp.out
                  rw [hk16] at h
                  have h3 : 1 * 65536 ^ 16 ≤ c * 65536 ^ 16 := Nat.mul_le_mul_right _ (by omega)
                  omega
              have HZ := Lib.hid hZ
              clear hZ
              by_cases hk16 : k < 16
              · have hc0 : c = 0 := by omega
                subst hc0
                go_wp2_with fail
                go_roundw
                case rel => exact ⟨i + 1, by omega, by go_num, by rw [← HZ.out]; exact HB3.out⟩
                case measure => simp [intOf]; omega
              · go_wp2_with fail
                go_roundw
                case rel => exact ⟨i + 1, by omega, by go_num, by rw [← HZ.out]; exact HB3.out⟩
                case measure => simp [intOf]; omega
    · have hi8 : i = 8 := by omega
      subst hi8
      have hB8 := hB
      rw [Nat.mod_eq_of_lt Hm.out] at hB8
      obtain ⟨hx, b0, b1, b2, b3⟩ := hB8
      have g0 := (b0.cell 0).trans (arr_get0 a (dg m))
      have g1 := (b1.cell 0).trans (arr_get0 b (dg n))
      have g3 := (b3.cell 0).trans (arr_get0 false (dg (m * n)))
      have f3 := b3.frozen 0
      have B3 := BlkS (i := 0) (u := .bool (!(a == b))) b3
      rw [arr_set0] at B3
      have hxs := ExtS (p := ⟨w.heap.size + 1 + 1 + 1, 0, none⟩) (v := .bool (!(a == b))) (by dsimp only; omega) hx
      have B2 := BlkF (p := ⟨w.heap.size + 1 + 1 + 1, 0, none⟩) (u := .bool (!(a == b))) (by dsimp only; omega) b2
      go_upto_region 19 with fail
      obtain ⟨W, HW⟩ : ∃ W, Hid (W = wr.setCell ⟨w.heap.size + 1 + 1 + 1, 0, none⟩ (.bool (!(a == b)))) := ⟨_, rfl⟩
      rw [← HW.out] at B3 B2 hxs
      rw [← HW.out]
      clear g0 g1 g3 f3
      go_wp2_with (first
        | (with_reducible refine wpL_load_row rfl 64 (.tmp 5) rfl _ 64 (arrA (!(a == b)) (dg (m * n))) 17 rfl B3 long_wide (arr_size _ _) ?_)
        | (with_reducible refine wpL_store_row rfl 64 (.tmp 4) (.tmp 77) rfl _ 64 (arrA false fun _ => 0) (arrA (!(a == b)) (dg (m * n))) rfl rfl B2 (by rw [arr_size, arr_size]) (arr_one _ _) 17 long_wide (arr_size _ _) ?_))
      exact bodyPost_ret (v := .agg (arrA (!(a == b)) (dg (m * n)))) (res_row rfl _ _ _ 64 _ 17 rfl B2.setRow_ long_wide (arr_size _ _)) rfl ⟨rfl, (by repeat (first | with_reducible exact Below.refl _ _ | with_reducible assumption | with_reducible refine ExtD ?_ | with_reducible refine ExtDN ?_ | with_reducible refine ExtA ?_ | (with_reducible refine ExtR ?_ ?_; (first | omega | (dsimp only; omega) | (simp; done) | (simp; omega))) | (with_reducible refine ExtS ?_ ?_; (first | omega | (dsimp only; omega) | (simp; done) | (simp; omega))) | with_reducible refine Ext.tr ?_ (by with_reducible assumption)))⟩
end Go.Proofs.YtjomgppbialeoaaGreat

namespace Go.Proofs.YtjomgppbialeoaaGreat
open Go.RowKit
set_option linter.unusedVariables false
set_option linter.unusedSimpArgs false
def OvB (w : World) (a b : Bool) (m n Q R : Nat) (wr : World) : Prop :=
  Ext w wr ∧ Blk wr w.heap.size 64 (arrA a (dg m)) ∧ Blk wr (w.heap.size + 1) 64 (arrA b (dg n)) ∧ Blk wr (w.heap.size + 1 + 1) 64 (arrA false (fun _ => 0)) ∧
    Blk wr (w.heap.size + 1 + 1 + 1) 64 (arrA false (fun _ => 0)) ∧ Blk wr (w.heap.size + 1 + 1 + 1 + 1) 64 (arrA false (dg Q)) ∧
    Blk wr (w.heap.size + 1 + 1 + 1 + 1 + 1) 64 (arrA false (dg R)) ∧ Blk wr (w.heap.size + 1 + 1 + 1 + 1 + 1 + 1) 64 (arrA false (dg n))
section
variable {w wr w' : World} {a b : Bool} {m n Q R : Nat}
theorem OvB.ext (h : OvB w a b m n Q R wr) (hx : Ext wr w') : OvB w a b m n Q R w' := by
  obtain ⟨h0, b0, b1, b2, b3, b4, b5, b6⟩ := h
  exact ⟨h0.tr hx, hx.blk b0, hx.blk b1, hx.blk b2, hx.blk b3, hx.blk b4, hx.blk b5, hx.blk b6⟩
theorem OvB.drewN (h : OvB w a b m n Q R wr) (q : Nat) : OvB w a b m n Q R (wr.drewN q) := h.ext (by repeat (first | with_reducible exact Below.refl _ _ | with_reducible assumption | with_reducible refine ExtD ?_ | with_reducible refine ExtDN ?_ | with_reducible refine ExtA ?_ | (with_reducible refine ExtR ?_ ?_; (first | omega | (dsimp only; omega) | (simp; done) | (simp; omega))) | (with_reducible refine ExtS ?_ ?_; (first | omega | (dsimp only; omega) | (simp; done) | (simp; omega))) | with_reducible refine Ext.tr ?_ (by with_reducible assumption)))
theorem OvB.rowR (h : OvB w a b m n Q R wr) (R' : Nat) : OvB w a b m n Q R' (wr.setRow (w.heap.size + 1 + 1 + 1 + 1 + 1) (arrA false (dg R'))) := by
  obtain ⟨h0, b0, b1, b2, b3, b4, b5, b6⟩ := h
  exact ⟨(by repeat (first | with_reducible exact Below.refl _ _ | with_reducible assumption | with_reducible refine ExtD ?_ | with_reducible refine ExtDN ?_ | with_reducible refine ExtA ?_ | (with_reducible refine ExtR ?_ ?_; (first | omega | (dsimp only; omega) | (simp; done) | (simp; omega))) | (with_reducible refine ExtS ?_ ?_; (first | omega | (dsimp only; omega) | (simp; done) | (simp; omega))) | with_reducible refine Ext.tr ?_ (by with_reducible assumption))), (by repeat (first | with_reducible assumption | (with_reducible refine BlkN ?_; (first | rfl | (first | omega | (dsimp only; omega) | (simp; done) | (simp; omega)))) | with_reducible refine BlkD ?_ | with_reducible refine BlkDN ?_ | with_reducible refine BlkA ?_ | with_reducible refine BlkE ?_ (by with_reducible assumption) | with_reducible refine BlkS ?_ | (with_reducible refine BlkF ?_ ?_; (first | omega | (dsimp only; omega) | (simp; done) | (simp; omega))) | (with_reducible refine BlkR ?_ ?_; (first | omega | (dsimp only; omega) | (simp; done) | (simp; omega))))), (by repeat (first | with_reducible assumption | (with_reducible refine BlkN ?_; (first | rfl | (first | omega | (dsimp only; omega) | (simp; done) | (simp; omega)))) | with_reducible refine BlkD ?_ | with_reducible refine BlkDN ?_ | with_reducible refine BlkA ?_ | with_reducible refine BlkE ?_ (by with_reducible assumption) | with_reducible refine BlkS ?_ | (with_reducible refine BlkF ?_ ?_; (first | omega | (dsimp only; omega) | (simp; done) | (simp; omega))) | (with_reducible refine BlkR ?_ ?_; (first | omega | (dsimp only; omega) | (simp; done) | (simp; omega))))), (by repeat (first | with_reducible assumption | (with_reducible refine BlkN ?_; (first | rfl | (first | omega | (dsimp only; omega) | (simp; done) | (simp; omega)))) | with_reducible refine BlkD ?_ | with_reducible refine BlkDN ?_ | with_reducible refine BlkA ?_ | with_reducible refine BlkE ?_ (by with_reducible assumption) | with_reducible refine BlkS ?_ | (with_reducible refine BlkF ?_ ?_; (first | omega | (dsimp only; omega) | (simp; done) | (simp; omega))) | (with_reducible refine BlkR ?_ ?_; (first | omega | (dsimp only; omega) | (simp; done) | (simp; omega))))), (by repeat (first | with_reducible assumption | (with_reducible refine BlkN ?_; (first | rfl | (first | omega | (dsimp only; omega) | (simp; done) | (simp; omega)))) | with_reducible refine BlkD ?_ | with_reducible refine BlkDN ?_ | with_reducible refine BlkA ?_ | with_reducible refine BlkE ?_ (by with_reducible assumption) | with_reducible refine BlkS ?_ | (with_reducible refine BlkF ?_ ?_; (first | omega | (dsimp only; omega) | (simp; done) | (simp; omega))) | (with_reducible refine BlkR ?_ ?_; (first | omega | (dsimp only; omega) | (simp; done) | (simp; omega))))), (by repeat (first | with_reducible assumption | (with_reducible refine BlkN ?_; (first | rfl | (first | omega | (dsimp only; omega) | (simp; done) | (simp; omega)))) | with_reducible refine BlkD ?_ | with_reducible refine BlkDN ?_ | with_reducible refine BlkA ?_ | with_reducible refine BlkE ?_ (by with_reducible assumption) | with_reducible refine BlkS ?_ | (with_reducible refine BlkF ?_ ?_; (first | omega | (dsimp only; omega) | (simp; done) | (simp; omega))) | (with_reducible refine BlkR ?_ ?_; (first | omega | (dsimp only; omega) | (simp; done) | (simp; omega))))), b5.setRow_, (by repeat (first | with_reducible assumption | (with_reducible refine BlkN ?_; (first | rfl | (first | omega | (dsimp only; omega) | (simp; done) | (simp; omega)))) | with_reducible refine BlkD ?_ | with_reducible refine BlkDN ?_ | with_reducible refine BlkA ?_ | with_reducible refine BlkE ?_ (by with_reducible assumption) | with_reducible refine BlkS ?_ | (with_reducible refine BlkF ?_ ?_; (first | omega | (dsimp only; omega) | (simp; done) | (simp; omega))) | (with_reducible refine BlkR ?_ ?_; (first | omega | (dsimp only; omega) | (simp; done) | (simp; omega)))))⟩
theorem set_arr (Z k x : Nat) (hk : k < 16) (hx : x < 65536) : (arrA false (dg Z)).setIfInBounds (1 + k) (.int .u64 (x : Int)) = arrA false (dg (setD Z k x)) := by
  rw [arr_set _ _ _ _ hk]
  exact (arr_ext fun j _ => dg_setD Z k x j hx).symm
theorem OvB.setR (h : OvB w a b m n Q R wr) (x : Nat) (hx : x < 65536) : OvB w a b m n Q (setD R 0 x) (wr.setCell ⟨w.heap.size + 1 + 1 + 1 + 1 + 1, 1, none⟩ (.int .u64 (x : Int))) := by
  obtain ⟨h0, b0, b1, b2, b3, b4, b5, b6⟩ := h
  refine ⟨(by repeat (first | with_reducible exact Below.refl _ _ | with_reducible assumption | with_reducible refine ExtD ?_ | with_reducible refine ExtDN ?_ | with_reducible refine ExtA ?_ | (with_reducible refine ExtR ?_ ?_; (first | omega | (dsimp only; omega) | (simp; done) | (simp; omega))) | (with_reducible refine ExtS ?_ ?_; (first | omega | (dsimp only; omega) | (simp; done) | (simp; omega))) | with_reducible refine Ext.tr ?_ (by with_reducible assumption))), (by repeat (first | with_reducible assumption | (with_reducible refine BlkN ?_; (first | rfl | (first | omega | (dsimp only; omega) | (simp; done) | (simp; omega)))) | with_reducible refine BlkD ?_ | with_reducible refine BlkDN ?_ | with_reducible refine BlkA ?_ | with_reducible refine BlkE ?_ (by with_reducible assumption) | with_reducible refine BlkS ?_ | (with_reducible refine BlkF ?_ ?_; (first | omega | (dsimp only; omega) | (simp; done) | (simp; omega))) | (with_reducible refine BlkR ?_ ?_; (first | omega | (dsimp only; omega) | (simp; done) | (simp; omega))))), (by repeat (first | with_reducible assumption | (with_reducible refine BlkN ?_; (first | rfl | (first | omega | (dsimp only; omega) | (simp; done) | (simp; omega)))) | with_reducible refine BlkD ?_ | with_reducible refine BlkDN ?_ | with_reducible refine BlkA ?_ | with_reducible refine BlkE ?_ (by with_reducible assumption) | with_reducible refine BlkS ?_ | (with_reducible refine BlkF ?_ ?_; (first | omega | (dsimp only; omega) | (simp; done) | (simp; omega))) | (with_reducible refine BlkR ?_ ?_; (first | omega | (dsimp only; omega) | (simp; done) | (simp; omega))))), (by repeat (first | with_reducible assumption | (with_reducible refine BlkN ?_; (first | rfl | (first | omega | (dsimp only; omega) | (simp; done) | (simp; omega)))) | with_reducible refine BlkD ?_ | with_reducible refine BlkDN ?_ | with_reducible refine BlkA ?_ | with_reducible refine BlkE ?_ (by with_reducible assumption) | with_reducible refine BlkS ?_ | (with_reducible refine BlkF ?_ ?_; (first | omega | (dsimp only; omega) | (simp; done) | (simp; omega))) | (with_reducible refine BlkR ?_ ?_; (first | omega | (dsimp only; omega) | (simp; done) | (simp; omega))))), (by repeat (first | with_reducible assumption | (with_reducible refine BlkN ?_; (first | rfl | (first | omega | (dsimp only; omega) | (simp; done) | (simp; omega)))) | with_reducible refine BlkD ?_ | with_reducible refine BlkDN ?_ | with_reducible refine BlkA ?_ | with_reducible refine BlkE ?_ (by with_reducible assumption) | with_reducible refine BlkS ?_ | (with_reducible refine BlkF ?_ ?_; (first | omega | (dsimp only; omega) | (simp; done) | (simp; omega))) | (with_reducible refine BlkR ?_ ?_; (first | omega | (dsimp only; omega) | (simp; done) | (simp; omega))))), (by repeat (first | with_reducible assumption | (with_reducible refine BlkN ?_; (first | rfl | (first | omega | (dsimp only; omega) | (simp; done) | (simp; omega)))) | with_reducible refine BlkD ?_ | with_reducible refine BlkDN ?_ | with_reducible refine BlkA ?_ | with_reducible refine BlkE ?_ (by with_reducible assumption) | with_reducible refine BlkS ?_ | (with_reducible refine BlkF ?_ ?_; (first | omega | (dsimp only; omega) | (simp; done) | (simp; omega))) | (with_reducible refine BlkR ?_ ?_; (first | omega | (dsimp only; omega) | (simp; done) | (simp; omega))))), ?_, (by repeat (first | with_reducible assumption | (with_reducible refine BlkN ?_; (first | rfl | (first | omega | (dsimp only; omega) | (simp; done) | (simp; omega)))) | with_reducible refine BlkD ?_ | with_reducible refine BlkDN ?_ | with_reducible refine BlkA ?_ | with_reducible refine BlkE ?_ (by with_reducible assumption) | with_reducible refine BlkS ?_ | (with_reducible refine BlkF ?_ ?_; (first | omega | (dsimp only; omega) | (simp; done) | (simp; omega))) | (with_reducible refine BlkR ?_ ?_; (first | omega | (dsimp only; omega) | (simp; done) | (simp; omega)))))⟩
  rw [← set_arr R 0 x (by decide) hx]
  exact BlkS b5
theorem OvB.setQ (h : OvB w a b m n Q R wr) (i x : Nat) (hi : i < 16) (hx : x < 65536) : OvB w a b m n (setD Q i x) R (wr.setCell ⟨w.heap.size + 1 + 1 + 1 + 1, 1 + i, none⟩ (.int .u64 (x : Int))) := by
  obtain ⟨h0, b0, b1, b2, b3, b4, b5, b6⟩ := h
  refine ⟨(by repeat (first | with_reducible exact Below.refl _ _ | with_reducible assumption | with_reducible refine ExtD ?_ | with_reducible refine ExtDN ?_ | with_reducible refine ExtA ?_ | (with_reducible refine ExtR ?_ ?_; (first | omega | (dsimp only; omega) | (simp; done) | (simp; omega))) | (with_reducible refine ExtS ?_ ?_; (first | omega | (dsimp only; omega) | (simp; done) | (simp; omega))) | with_reducible refine Ext.tr ?_ (by with_reducible assumption))), (by repeat (first | with_reducible assumption | (with_reducible refine BlkN ?_; (first | rfl | (first | omega | (dsimp only; omega) | (simp; done) | (simp; omega)))) | with_reducible refine BlkD ?_ | with_reducible refine BlkDN ?_ | with_reducible refine BlkA ?_ | with_reducible refine BlkE ?_ (by with_reducible assumption) | with_reducible refine BlkS ?_ | (with_reducible refine BlkF ?_ ?_; (first | omega | (dsimp only; omega) | (simp; done) | (simp; omega))) | (with_reducible refine BlkR ?_ ?_; (first | omega | (dsimp only; omega) | (simp; done) | (simp; omega))))), (by repeat (first | with_reducible assumption | (with_reducible refine BlkN ?_; (first | rfl | (first | omega | (dsimp only; omega) | (simp; done) | (simp; omega)))) | with_reducible refine BlkD ?_ | with_reducible refine BlkDN ?_ | with_reducible refine BlkA ?_ | with_reducible refine BlkE ?_ (by with_reducible assumption) | with_reducible refine BlkS ?_ | (with_reducible refine BlkF ?_ ?_; (first | omega | (dsimp only; omega) | (simp; done) | (simp; omega))) | (with_reducible refine BlkR ?_ ?_; (first | omega | (dsimp only; omega) | (simp; done) | (simp; omega))))), (by repeat (first | with_reducible assumption | (with_reducible refine BlkN ?_; (first | rfl | (first | omega | (dsimp only; omega) | (simp; done) | (simp; omega)))) | with_reducible refine BlkD ?_ | with_reducible refine BlkDN ?_ | with_reducible refine BlkA ?_ | with_reducible refine BlkE ?_ (by with_reducible assumption) | with_reducible refine BlkS ?_ | (with_reducible refine BlkF ?_ ?_; (first | omega | (dsimp only; omega) | (simp; done) | (simp; omega))) | (with_reducible refine BlkR ?_ ?_; (first | omega | (dsimp only; omega) | (simp; done) | (simp; omega))))), (by repeat (first | with_reducible assumption | (with_reducible refine BlkN ?_; (first | rfl | (first | omega | (dsimp only; omega) | (simp; done) | (simp; omega)))) | with_reducible refine BlkD ?_ | with_reducible refine BlkDN ?_ | with_reducible refine BlkA ?_ | with_reducible refine BlkE ?_ (by with_reducible assumption) | with_reducible refine BlkS ?_ | (with_reducible refine BlkF ?_ ?_; (first | omega | (dsimp only; omega) | (simp; done) | (simp; omega))) | (with_reducible refine BlkR ?_ ?_; (first | omega | (dsimp only; omega) | (simp; done) | (simp; omega))))), ?_, (by repeat (first | with_reducible assumption | (with_reducible refine BlkN ?_; (first | rfl | (first | omega | (dsimp only; omega) | (simp; done) | (simp; omega)))) | with_reducible refine BlkD ?_ | with_reducible refine BlkDN ?_ | with_reducible refine BlkA ?_ | with_reducible refine BlkE ?_ (by with_reducible assumption) | with_reducible refine BlkS ?_ | (with_reducible refine BlkF ?_ ?_; (first | omega | (dsimp only; omega) | (simp; done) | (simp; omega))) | (with_reducible refine BlkR ?_ ?_; (first | omega | (dsimp only; omega) | (simp; done) | (simp; omega))))), (by repeat (first | with_reducible assumption | (with_reducible refine BlkN ?_; (first | rfl | (first | omega | (dsimp only; omega) | (simp; done) | (simp; omega)))) | with_reducible refine BlkD ?_ | with_reducible refine BlkDN ?_ | with_reducible refine BlkA ?_ | with_reducible refine BlkE ?_ (by with_reducible assumption) | with_reducible refine BlkS ?_ | (with_reducible refine BlkF ?_ ?_; (first | omega | (dsimp only; omega) | (simp; done) | (simp; omega))) | (with_reducible refine BlkR ?_ ?_; (first | omega | (dsimp only; omega) | (simp; done) | (simp; omega)))))⟩
  rw [← set_arr Q i x hi hx]
  exact BlkS b4
end
def OverR (w : World) (a b : Bool) (m n : Nat) (i : Value) (wr : World) : Prop := ∃ k : Nat, k ≤ 256 ∧ i = .int .i64 ((k : Int) - 1) ∧ OvB w a b m n (ovQ m n k) (ovR m n k) wr
set_option maxRecDepth 10000 in
set_option maxHeartbeats 4000000 in
theorem over_any (a b : Bool) (m n : Nat) (w : World) (hm : m < 2 ^ 256) (hn : 0 < n) (hn2 : n ≤ 340282366920938463463374607431768211456) :
    Calls Tryz.prog 34 #[longV a m, longV b n] w fun e w' => e = .returned (.tuple #[longV (a != b) (m / n), longV false (m % n)]) ∧ Ext w w' := by
  have Hm := Lib.hid hm
  have Hn := Lib.hid hn
  have Hn2 := Lib.hid hn2
  clear hm hn hn2
  have z2 := arr_zero false
  have s0 := arr_set0 b false (dg n)
  have Z0 := Lib.hid (show arrA false (fun _ => 0) = arrA false (dg 0) from arr_ext fun j _ => by simp [dg])
  unfold longV
  go_enter Tryz.func34, Tryz.ntmps34
  obtain ⟨W3, HW3⟩ : ∃ W, Hid (W = ((((w.alloc (.cells (arrA a (dg m)) 64)).alloc (.cells (arrA b (dg n)) 64)).alloc (.cells (arrA false fun _ => 0) 64)).alloc (.cells (arrA false fun _ => 0) 64))) := ⟨_, rfl⟩
  have hsz : W3.heap.size = w.heap.size + 1 + 1 + 1 + 1 := by rw [HW3.out]; simp
  have B1 : Blk W3 (w.heap.size + 1) 64 (arrA b (dg n)) := by rw [HW3.out]; exact (by repeat (first | with_reducible assumption | (with_reducible refine BlkN ?_; (first | rfl | (first | omega | (dsimp only; omega) | (simp; done) | (simp; omega)))) | with_reducible refine BlkD ?_ | with_reducible refine BlkDN ?_ | with_reducible refine BlkA ?_ | with_reducible refine BlkE ?_ (by with_reducible assumption) | with_reducible refine BlkS ?_ | (with_reducible refine BlkF ?_ ?_; (first | omega | (dsimp only; omega) | (simp; done) | (simp; omega))) | (with_reducible refine BlkR ?_ ?_; (first | omega | (dsimp only; omega) | (simp; done) | (simp; omega)))))
  have Hsz := Lib.hid hsz
  clear hsz
  go_upto_region 3 with (first
    | (with_reducible refine wpL_store_new rfl 64 (.tmp 6) (.tmp 10) rfl (w.heap.size + 1 + 1 + 1 + 1) 64 (arrA false fun _ => 0) (arrA false fun _ => 0) rfl rfl (by simp) (by rw [arr_size]) (arr_one _ _) 17 long_wide (arr_size _ _) ?_)
    | (with_reducible refine wpL_store_new rfl 64 (.tmp 7) (.tmp 11) rfl (w.heap.size + 1 + 1 + 1 + 1 + 1) 64 (arrA false fun _ => 0) (arrA false fun _ => 0) rfl rfl (by simp) (by rw [arr_size]) (arr_one _ _) 17 long_wide (arr_size _ _) ?_))
  rw [← HW3.out]
  have B1' := BlkA (o := .cells (arrA false fun _ => 0) 64) (BlkA (o := .cells (arrA false fun _ => 0) 64) B1)
  go_upto_region 5 with (first
    | (with_reducible refine wpL_load_row rfl 64 (.tmp 3) rfl _ 64 (arrA b (dg n)) 17 rfl B1' long_wide (arr_size _ _) ?_)
    | (with_reducible refine wpL_store_new rfl 64 (.tmp 8) (.tmp 12) rfl (W3.heap.size + 1 + 1) 64 (arrA false fun _ => 0) (arrA b (dg n)) rfl rfl (by simp) (by rw [arr_size, arr_size]) (arr_one _ _) 17 long_wide (arr_size _ _) ?_))
  rw [Hsz.out]
  obtain ⟨W7, HW7⟩ : ∃ W, Hid (W = ((W3.alloc (.cells (arrA false fun _ => 0) 64)).alloc (.cells (arrA false fun _ => 0) 64)).alloc (.cells (arrA false (dg n)) 64)) := ⟨_, rfl⟩
  have hB7 : OvB w a b m n (ovQ m n 256) (ovR m n 256) W7 := by
    rw [ovQ_top m n Hm.out, ovR_top m n Hm.out, HW7.out, HW3.out]
    refine ⟨(by repeat (first | with_reducible exact Below.refl _ _ | with_reducible assumption | with_reducible refine ExtD ?_ | with_reducible refine ExtDN ?_ | with_reducible refine ExtA ?_ | (with_reducible refine ExtR ?_ ?_; (first | omega | (dsimp only; omega) | (simp; done) | (simp; omega))) | (with_reducible refine ExtS ?_ ?_; (first | omega | (dsimp only; omega) | (simp; done) | (simp; omega))) | with_reducible refine Ext.tr ?_ (by with_reducible assumption))), (by repeat (first | with_reducible assumption | (with_reducible refine BlkN ?_; (first | rfl | (first | omega | (dsimp only; omega) | (simp; done) | (simp; omega)))) | with_reducible refine BlkD ?_ | with_reducible refine BlkDN ?_ | with_reducible refine BlkA ?_ | with_reducible refine BlkE ?_ (by with_reducible assumption) | with_reducible refine BlkS ?_ | (with_reducible refine BlkF ?_ ?_; (first | omega | (dsimp only; omega) | (simp; done) | (simp; omega))) | (with_reducible refine BlkR ?_ ?_; (first | omega | (dsimp only; omega) | (simp; done) | (simp; omega))))), (by repeat (first | with_reducible assumption | (with_reducible refine BlkN ?_; (first | rfl | (first | omega | (dsimp only; omega) | (simp; done) | (simp; omega)))) | with_reducible refine BlkD ?_ | with_reducible refine BlkDN ?_ | with_reducible refine BlkA ?_ | with_reducible refine BlkE ?_ (by with_reducible assumption) | with_reducible refine BlkS ?_ | (with_reducible refine BlkF ?_ ?_; (first | omega | (dsimp only; omega) | (simp; done) | (simp; omega))) | (with_reducible refine BlkR ?_ ?_; (first | omega | (dsimp only; omega) | (simp; done) | (simp; omega))))), (by repeat (first | with_reducible assumption | (with_reducible refine BlkN ?_; (first | rfl | (first | omega | (dsimp only; omega) | (simp; done) | (simp; omega)))) | with_reducible refine BlkD ?_ | with_reducible refine BlkDN ?_ | with_reducible refine BlkA ?_ | with_reducible refine BlkE ?_ (by with_reducible assumption) | with_reducible refine BlkS ?_ | (with_reducible refine BlkF ?_ ?_; (first | omega | (dsimp only; omega) | (simp; done) | (simp; omega))) | (with_reducible refine BlkR ?_ ?_; (first | omega | (dsimp only; omega) | (simp; done) | (simp; omega))))), (by repeat (first | with_reducible assumption | (with_reducible refine BlkN ?_; (first | rfl | (first | omega | (dsimp only; omega) | (simp; done) | (simp; omega)))) | with_reducible refine BlkD ?_ | with_reducible refine BlkDN ?_ | with_reducible refine BlkA ?_ | with_reducible refine BlkE ?_ (by with_reducible assumption) | with_reducible refine BlkS ?_ | (with_reducible refine BlkF ?_ ?_; (first | omega | (dsimp only; omega) | (simp; done) | (simp; omega))) | (with_reducible refine BlkR ?_ ?_; (first | omega | (dsimp only; omega) | (simp; done) | (simp; omega))))), ?_, ?_, (by repeat (first | with_reducible assumption | (with_reducible refine BlkN ?_; (first | rfl | (first | omega | (dsimp only; omega) | (simp; done) | (simp; omega)))) | with_reducible refine BlkD ?_ | with_reducible refine BlkDN ?_ | with_reducible refine BlkA ?_ | with_reducible refine BlkE ?_ (by with_reducible assumption) | with_reducible refine BlkS ?_ | (with_reducible refine BlkF ?_ ?_; (first | omega | (dsimp only; omega) | (simp; done) | (simp; omega))) | (with_reducible refine BlkR ?_ ?_; (first | omega | (dsimp only; omega) | (simp; done) | (simp; omega)))))⟩
    · rw [← Z0.out]; exact (by repeat (first | with_reducible assumption | (with_reducible refine BlkN ?_; (first | rfl | (first | omega | (dsimp only; omega) | (simp; done) | (simp; omega)))) | with_reducible refine BlkD ?_ | with_reducible refine BlkDN ?_ | with_reducible refine BlkA ?_ | with_reducible refine BlkE ?_ (by with_reducible assumption) | with_reducible refine BlkS ?_ | (with_reducible refine BlkF ?_ ?_; (first | omega | (dsimp only; omega) | (simp; done) | (simp; omega))) | (with_reducible refine BlkR ?_ ?_; (first | omega | (dsimp only; omega) | (simp; done) | (simp; omega)))))
    · rw [← Z0.out]; exact (by repeat (first | with_reducible assumption | (with_reducible refine BlkN ?_; (first | rfl | (first | omega | (dsimp only; omega) | (simp; done) | (simp; omega)))) | with_reducible refine BlkD ?_ | with_reducible refine BlkDN ?_ | with_reducible refine BlkA ?_ | with_reducible refine BlkE ?_ (by with_reducible assumption) | with_reducible refine BlkS ?_ | (with_reducible refine BlkF ?_ ?_; (first | omega | (dsimp only; omega) | (simp; done) | (simp; omega))) | (with_reducible refine BlkR ?_ ?_; (first | omega | (dsimp only; omega) | (simp; done) | (simp; omega)))))
  rw [← HW7.out]
  clear HW3 HW7 B1 B1' Hsz s0 z2
  go_wp2_with fail
  go_loopw [9] (fun i wr => OverR w a b m n i wr) (fun i _ => (intOf i + 1).toNat)
  case atStart => exact ⟨256, by omega, rfl, hB7⟩
  case round =>
    clear hB7
    obtain ⟨k, hk, rfl, hB⟩ := hrel
    have HB := Lib.hid hB
    by_cases hlt : 0 < k
    · obtain ⟨t, rfl⟩ : ∃ t, k = t + 1 := ⟨k - 1, by omega⟩
      rw [show ((t + 1 : Nat) : Int) - 1 = t by omega]
      obtain ⟨Q, HQ⟩ : ∃ Q, Hid (Q = ovQ m n (t + 1)) := ⟨_, rfl⟩
      obtain ⟨R, HR⟩ : ∃ R, Hid (R = ovR m n (t + 1)) := ⟨_, rfl⟩
      rw [← HQ.out, ← HR.out] at HB hB
      obtain ⟨h0, b0, b1, b2, b3, b4, b5, b6⟩ := hB
      go_upto_region 9 with (first
        | (with_reducible refine wpL_load_row rfl 64 (.tmp 7) rfl _ 64 (arrA false (dg R)) 17 rfl b5 long_wide (arr_size _ _) ?_)
        | (go_at_call 62; go_must (with_reducible refine (up_any false false R R _).mono ?_); rintro e w1 ⟨rfl, hx1⟩; have B5 := hx1.blk b5)
        | (with_reducible refine wpL_store_row rfl 64 (.tmp 7) (.tmp 20) rfl _ 64 (arrA false (dg R)) (arrA false (dg (R + R))) rfl rfl B5 (by rw [arr_size, arr_size]) (arr_one _ _) 17 long_wide (arr_size _ _) ?_))
      simp only [Act.put]
      obtain ⟨W9, HW9⟩ : ∃ W, Hid (W = w1.setRow (w.heap.size + 1 + 1 + 1 + 1 + 1) (arrA false (dg (R + R)))) := ⟨_, rfl⟩
      have HB9 := Lib.hid (show OvB w a b m n Q (R + R) W9 by rw [HW9.out]; exact (HB.out.ext hx1).rowR (R + R))
      rw [← HW9.out]
      clear HW9 hx1 B5 h0 b0 b1 b2 b3 b4 b5 b6 HB
      obtain ⟨h0, b0, b1, b2, b3, b4, b5, b6⟩ := HB9.out
      have ht16 : t / 16 < 16 := by omega
      obtain ⟨i, Hi⟩ : ∃ i, Hid (i = t / 16) := ⟨_, rfl⟩
      obtain ⟨s, Hs⟩ : ∃ s, Hid (s = t % 16) := ⟨_, rfl⟩
      rw [← Hi.out] at ht16
      have hs16 : s < 16 := by rw [Hs.out]; omega
      have c5 := (b5.cell (1 + 0)).trans (arr_get _ _ 0 (by decide))
      have f5 := b5.frozen (1 + 0)
      have c0 := (b0.cell (1 + i)).trans (arr_get _ _ i ht16)
      have e1 : (t : Int).tdiv 16 = (i : Int) := by rw [Hi.out, Int.tdiv_eq_ediv_of_nonneg (by omega)]; omega
      have e2 : (t : Int).tmod 16 = (s : Int) := by rw [Hs.out, Int.tmod_eq_emod_of_nonneg (by omega)]; omega
      have e3 : IntKind.i64.wrap (i : Int) = (i : Int) := by rw [IntKind.wrap_i64]; omega
      have e4 : IntKind.i64.wrap (s : Int) = (s : Int) := by rw [IntKind.wrap_i64]; omega
      have hdd := dg_lt (R + R) 0
      have hi16 : (i : Int) < 16 := by omega
      have hs16' : (0 : Int) ≤ (s : Int) := by omega
      have hbit := bit_dg m t
      rw [← Hi.out, ← Hs.out] at hbit
      have hev := even_set (R + R) (bitOf m t) (by omega) (bit_le m t)
      have Hev := Lib.hid hev
      have Hbit := Lib.hid hbit
      clear hev hbit
      go_cut [] (fun w' => OvB w a b m n Q (R + R + bitOf m t) w')
      case first =>
        go_region
        all_goals
          go_wp2_with fail
          go_meet
          case rel =>
            have e5 : IntKind.u64.wrap (((dg (R + R) 0 : Nat) : Int) + (((dg m i : Nat) : Int) / 2 ^ s).tmod 2) = ((dg (R + R) 0 + bitOf m t : Nat) : Int) := by
              have hb := bit_le m t
              have hb2 := Hbit.out
              rw [show (((dg m i : Nat) : Int) / 2 ^ s) = ((dg m i / 2 ^ s : Nat) : Int) by simp]
              generalize dg m i / 2 ^ s = y at *
              rw [Int.tmod_eq_emod_of_nonneg (by omega), IntKind.wrap_u64]
              omega
            rw [e5]
            have h := HB9.out.setR _ Hev.out.1
            rw [Hev.out.2] at h
            exact h.ext (by repeat (first | with_reducible exact Below.refl _ _ | with_reducible assumption | with_reducible refine ExtD ?_ | with_reducible refine ExtDN ?_ | with_reducible refine ExtA ?_ | (with_reducible refine ExtR ?_ ?_; (first | omega | (dsimp only; omega) | (simp; done) | (simp; omega))) | (with_reducible refine ExtS ?_ ?_; (first | omega | (dsimp only; omega) | (simp; done) | (simp; omega))) | with_reducible refine Ext.tr ?_ (by with_reducible assumption)))
      case rest =>
        have HB10 := Lib.hid hcut
        clear c5 f5 c0 h0 b0 b1 b2 b3 b4 b5 b6
        obtain ⟨h0, b0, b1, b2, b3, b4, b5, b6⟩ := HB10.out
        obtain ⟨R2, HR2⟩ : ∃ R2, Hid (R2 = R + R + bitOf m t) := ⟨_, rfl⟩
        rw [← HR2.out] at HB10 b5
        have hRn : R < n := by rw [HR.out]; exact ovR_lt m n _ Hn.out
        have hR2 : R2 < 65536 ^ 16 := by have := bit_le m t; have := HR2.out; have := Hn2.out; omega
        have hn16 : n < 65536 ^ 16 := by have := Hn2.out; omega
        have HR16 := Lib.hid hR2
        have Hn16 := Lib.hid hn16
        have hq1 := quot_next m n t Hn.out
        have hr1 := rest_next m n t Hn.out
        rw [← HR.out, ← HQ.out, show 2 * R + bitOf m t = R2 by rw [HR2.out]; omega] at hq1
        rw [← HR.out, show 2 * R + bitOf m t = R2 by rw [HR2.out]; omega] at hr1
        clear hR2 hn16 hcut
        by_cases hge : n ≤ R2
        · rw [if_pos hge] at hq1 hr1
          have Hq1 := Lib.hid hq1
          have Hr1 := Lib.hid hr1
          have Hge := Lib.hid hge
          have hc := cmpI_ge hge
          clear hq1 hr1
          go_upto_region 12 with (first
            | (go_at_call 37; go_must (with_reducible refine (cmp_any false false R2 n _ HR16.out Hn16.out).mono ?_); rintro e w2 ⟨rfl, hx2⟩; have D5 := hx2.blk b5; have D6 := hx2.blk b6)
            | (go_at_call 63; go_must (with_reducible refine (down_any false false R2 n _ Hge.out).mono ?_); rintro e w3 ⟨rfl, hx3⟩; have E5 := hx3.blk D5)
            | (with_reducible refine wpL_load_row rfl 64 (.tmp 7) rfl _ 64 (arrA false (dg R2)) 17 rfl b5 long_wide (arr_size _ _) ?_) | (with_reducible refine wpL_load_row rfl 64 (.tmp 8) rfl _ 64 (arrA false (dg n)) 17 rfl b6 long_wide (arr_size _ _) ?_) | (with_reducible refine wpL_load_row rfl 64 (.tmp 7) rfl _ 64 (arrA false (dg R2)) 17 rfl D5 long_wide (arr_size _ _) ?_) | (with_reducible refine wpL_load_row rfl 64 (.tmp 8) rfl _ 64 (arrA false (dg n)) 17 rfl D6 long_wide (arr_size _ _) ?_)
            | (with_reducible refine wpL_store_row rfl 64 (.tmp 7) (.tmp 42) rfl _ 64 (arrA false (dg R2)) (arrA false (dg (R2 - n))) rfl rfl E5 (by rw [arr_size, arr_size]) (arr_one _ _) 17 long_wide (arr_size _ _) ?_))
          simp only [Act.put]
          obtain ⟨W12, HW12⟩ : ∃ W, Hid (W = w3.setRow (w.heap.size + 1 + 1 + 1 + 1 + 1) (arrA false (dg (R2 - n)))) := ⟨_, rfl⟩
          have HB12 := Lib.hid (show OvB w a b m n Q (R2 - n) W12 by rw [HW12.out]; exact ((HB10.out.ext hx2).ext hx3).rowR (R2 - n))
          rw [← HW12.out]
          clear HW12 hx2 hx3 D5 D6 E5 h0 b0 b1 b2 b3 b4 b5 b6 hc hge
          obtain ⟨h0, b0, b1, b2, b3, b4, b5, b6⟩ := HB12.out
          have c4 := (b4.cell (1 + i)).trans (arr_get _ _ i ht16)
          have f4 := b4.frozen (1 + i)
          have hbs := bit_set (m / 2 ^ (t + 1) / n) t
          rw [show m / 2 ^ (t + 1) / n * 2 ^ (t + 1) = Q by rw [HQ.out]; rfl, ← Hi.out, ← Hs.out] at hbs
          have Hbs := Lib.hid hbs
          clear hbs
          go_region
          all_goals
            go_wp2_with fail
            go_roundw
            case rel =>
              refine ⟨t, by omega, by simp, ?_⟩
              rw [Hq1.out, Hr1.out]
              have e6 : IntKind.u64.wrap (((dg Q i : Nat) : Int) + IntKind.u64.wrap (2 ^ s)) = ((dg Q i + 2 ^ s : Nat) : Int) := by
                have hb := Hbs.out.1
                rw [show ((2 : Int) ^ s) = ((2 ^ s : Nat) : Int) by simp]
                generalize 2 ^ s = y at *
                rw [IntKind.wrap_u64, IntKind.wrap_u64]
                omega
              rw [e6]
              have h := HB12.out.setQ i _ ht16 Hbs.out.1
              rw [Hbs.out.2] at h
              exact h.ext (by repeat (first | with_reducible exact Below.refl _ _ | with_reducible assumption | with_reducible refine ExtD ?_ | with_reducible refine ExtDN ?_ | with_reducible refine ExtA ?_ | (with_reducible refine ExtR ?_ ?_; (first | omega | (dsimp only; omega) | (simp; done) | (simp; omega))) | (with_reducible refine ExtS ?_ ?_; (first | omega | (dsimp only; omega) | (simp; done) | (simp; omega))) | with_reducible refine Ext.tr ?_ (by with_reducible assumption)))
            case measure => simp [intOf]
        · rw [if_neg hge] at hq1 hr1
          have Hq1 := Lib.hid hq1
          have Hr1 := Lib.hid hr1
          have hc := cmpI_neg hge
          clear hq1 hr1
          go_wp2_with (first
            | (go_at_call 37; go_must (with_reducible refine (cmp_any false false R2 n _ HR16.out Hn16.out).mono ?_); rintro e w2 ⟨rfl, hx2⟩)
            | (with_reducible refine wpL_load_row rfl 64 (.tmp 7) rfl _ 64 (arrA false (dg R2)) 17 rfl b5 long_wide (arr_size _ _) ?_) | (with_reducible refine wpL_load_row rfl 64 (.tmp 8) rfl _ 64 (arrA false (dg n)) 17 rfl b6 long_wide (arr_size _ _) ?_))
          go_roundw
          case rel => exact ⟨t, by omega, by simp, by rw [Hq1.out, Hr1.out]; exact HB10.out.ext (by repeat (first | with_reducible exact Below.refl _ _ | with_reducible assumption | with_reducible refine ExtD ?_ | with_reducible refine ExtDN ?_ | with_reducible refine ExtA ?_ | (with_reducible refine ExtR ?_ ?_; (first | omega | (dsimp only; omega) | (simp; done) | (simp; omega))) | (with_reducible refine ExtS ?_ ?_; (first | omega | (dsimp only; omega) | (simp; done) | (simp; omega))) | with_reducible refine Ext.tr ?_ (by with_reducible assumption)))⟩
          case measure => simp [intOf]
    · have hk0 : k = 0 := by omega
      subst hk0
      rw [ovQ_end, ovR_end] at hB
      obtain ⟨h0, b0, b1, b2, b3, b4, b5, b6⟩ := hB
      have g0 := (b0.cell 0).trans (arr_get0 a (dg m))
      have g1 := (b1.cell 0).trans (arr_get0 b (dg n))
      have g4 := (b4.cell 0).trans (arr_get0 false (dg (m / n)))
      have f4 := b4.frozen 0
      have A4 := BlkS (i := 0) (u := .bool (!(a == b))) b4
      rw [arr_set0] at A4
      have A0 := ExtS (p := ⟨w.heap.size + 1 + 1 + 1 + 1, 0, none⟩) (v := .bool (!(a == b))) (by dsimp only; omega) h0
      have A2 := BlkF (p := ⟨w.heap.size + 1 + 1 + 1 + 1, 0, none⟩) (u := .bool (!(a == b))) (by dsimp only; omega) b2
      have A3 := BlkF (p := ⟨w.heap.size + 1 + 1 + 1 + 1, 0, none⟩) (u := .bool (!(a == b))) (by dsimp only; omega) b3
      have A5 := BlkF (p := ⟨w.heap.size + 1 + 1 + 1 + 1, 0, none⟩) (u := .bool (!(a == b))) (by dsimp only; omega) b5
      go_upto_region 14 with fail
      obtain ⟨W, HW⟩ : ∃ W, Hid (W = wr.setCell ⟨w.heap.size + 1 + 1 + 1 + 1, 0, none⟩ (.bool (!(a == b)))) := ⟨_, rfl⟩
      rw [← HW.out] at A4 A2 A3 A5 A0
      rw [← HW.out]
      clear g0 g1 g4 f4 h0 b0 b1 b2 b3 b4 b5 b6 HB HW
      refine wp_region_any (by kernel_rfl) ?_
      change wpAny _ _ _ _ _ _ _ (World.drew _)
      have B2 := BlkD A2
      have B3 := BlkD A3
      have B4 := BlkD A4
      have B5 := BlkD A5
      have B0 := ExtD A0
      have C3 := BlkR (g' := w.heap.size + 1 + 1) (ds := arrA (!(a == b)) (dg (m / n))) (by omega) B3
      have C5 := BlkR (g' := w.heap.size + 1 + 1) (ds := arrA (!(a == b)) (dg (m / n))) (by omega) B5
      refine wpAny_ready (rs := [0, 1]) (by kernel_rfl) (by simp) (AllReady.cons rfl (fun K hK => ?_) (AllReady.cons rfl (fun K hK => ?_) AllReady.nil))
      · refine step_load_row rfl (some 60) rfl 64 (.tmp 6) rfl _ 64 (arrA (!(a == b)) (dg (m / n))) 17 rfl B4 long_wide (arr_size _ _) (hK _ _ ?_)
        refine wpAny_ready (rs := [1, 2]) (by kernel_rfl) (by simp) (AllReady.cons rfl (fun K hK => ?_) (AllReady.cons rfl (fun K hK => ?_) AllReady.nil))
        · refine step_load_row rfl (some 61) rfl 64 (.tmp 7) rfl _ 64 (arrA false (dg (m % n))) 17 rfl B5 long_wide (arr_size _ _) (hK _ _ ?_)
          refine wpAny_ready (rs := [2]) (by kernel_rfl) (by simp) (AllReady.cons rfl (fun K hK => ?_) AllReady.nil)
          refine step_store_row rfl none rfl 64 (.tmp 4) (.tmp 60) rfl _ 64 (arrA false fun _ => 0) (arrA (!(a == b)) (dg (m / n))) rfl rfl B2 (by rw [arr_size, arr_size]) (arr_one _ _) 17 long_wide (arr_size _ _) (hK _ _ ?_)
          refine wpAny_ready (rs := [3]) (by kernel_rfl) (by simp) (AllReady.cons rfl (fun K hK => ?_) AllReady.nil)
          refine step_store_row rfl none rfl 64 (.tmp 5) (.tmp 61) rfl _ 64 (arrA false fun _ => 0) (arrA false (dg (m % n))) rfl rfl C3 (by rw [arr_size, arr_size]) (arr_one _ _) 17 long_wide (arr_size _ _) (hK _ _ ?_)
          refine wpAny_done (by kernel_rfl) ?_ _
          simp only [Act.put]
          go_wp2_with fail
          exact bodyPost_ret (v := .tuple #[.agg (arrA (!(a == b)) (dg (m / n))), .agg (arrA false (dg (m % n)))]) (res_row2 rfl _ _ _ _ _ _ _ 17 17 rfl rfl (BlkR (by omega) B2.setRow_) C3.setRow_ long_wide long_wide (arr_size _ _) (arr_size _ _)) rfl ⟨rfl, (by repeat (first | with_reducible exact Below.refl _ _ | with_reducible assumption | with_reducible refine ExtD ?_ | with_reducible refine ExtDN ?_ | with_reducible refine ExtA ?_ | (with_reducible refine ExtR ?_ ?_; (first | omega | (dsimp only; omega) | (simp; done) | (simp; omega))) | (with_reducible refine ExtS ?_ ?_; (first | omega | (dsimp only; omega) | (simp; done) | (simp; omega))) | with_reducible refine Ext.tr ?_ (by with_reducible assumption)))⟩
        · refine step_store_row rfl none rfl 64 (.tmp 4) (.tmp 60) rfl _ 64 (arrA false fun _ => 0) (arrA (!(a == b)) (dg (m / n))) rfl rfl B2 (by rw [arr_size, arr_size]) (arr_one _ _) 17 long_wide (arr_size _ _) (hK _ _ ?_)
          refine wpAny_ready (rs := [1]) (by kernel_rfl) (by simp) (AllReady.cons rfl (fun K hK => ?_) AllReady.nil)
          refine step_load_row rfl (some 61) rfl 64 (.tmp 7) rfl _ 64 (arrA false (dg (m % n))) 17 rfl C5 long_wide (arr_size _ _) (hK _ _ ?_)
          refine wpAny_ready (rs := [3]) (by kernel_rfl) (by simp) (AllReady.cons rfl (fun K hK => ?_) AllReady.nil)
          refine step_store_row rfl none rfl 64 (.tmp 5) (.tmp 61) rfl _ 64 (arrA false fun _ => 0) (arrA false (dg (m % n))) rfl rfl C3 (by rw [arr_size, arr_size]) (arr_one _ _) 17 long_wide (arr_size _ _) (hK _ _ ?_)
          refine wpAny_done (by kernel_rfl) ?_ _
          simp only [Act.put]
          go_wp2_with fail
          exact bodyPost_ret (v := .tuple #[.agg (arrA (!(a == b)) (dg (m / n))), .agg (arrA false (dg (m % n)))]) (res_row2 rfl _ _ _ _ _ _ _ 17 17 rfl rfl (BlkR (by omega) B2.setRow_) C3.setRow_ long_wide long_wide (arr_size _ _) (arr_size _ _)) rfl ⟨rfl, (by repeat (first | with_reducible exact Below.refl _ _ | with_reducible assumption | with_reducible refine ExtD ?_ | with_reducible refine ExtDN ?_ | with_reducible refine ExtA ?_ | (with_reducible refine ExtR ?_ ?_; (first | omega | (dsimp only; omega) | (simp; done) | (simp; omega))) | (with_reducible refine ExtS ?_ ?_; (first | omega | (dsimp only; omega) | (simp; done) | (simp; omega))) | with_reducible refine Ext.tr ?_ (by with_reducible assumption)))⟩
      · refine step_load_row rfl (some 61) rfl 64 (.tmp 7) rfl _ 64 (arrA false (dg (m % n))) 17 rfl B5 long_wide (arr_size _ _) (hK _ _ ?_)
        refine wpAny_ready (rs := [0]) (by kernel_rfl) (by simp) (AllReady.cons rfl (fun K hK => ?_) AllReady.nil)
        refine step_load_row rfl (some 60) rfl 64 (.tmp 6) rfl _ 64 (arrA (!(a == b)) (dg (m / n))) 17 rfl B4 long_wide (arr_size _ _) (hK _ _ ?_)
        refine wpAny_ready (rs := [2]) (by kernel_rfl) (by simp) (AllReady.cons rfl (fun K hK => ?_) AllReady.nil)
        refine step_store_row rfl none rfl 64 (.tmp 4) (.tmp 60) rfl _ 64 (arrA false fun _ => 0) (arrA (!(a == b)) (dg (m / n))) rfl rfl B2 (by rw [arr_size, arr_size]) (arr_one _ _) 17 long_wide (arr_size _ _) (hK _ _ ?_)
        refine wpAny_ready (rs := [3]) (by kernel_rfl) (by simp) (AllReady.cons rfl (fun K hK => ?_) AllReady.nil)
        refine step_store_row rfl none rfl 64 (.tmp 5) (.tmp 61) rfl _ 64 (arrA false fun _ => 0) (arrA false (dg (m % n))) rfl rfl C3 (by rw [arr_size, arr_size]) (arr_one _ _) 17 long_wide (arr_size _ _) (hK _ _ ?_)
        refine wpAny_done (by kernel_rfl) ?_ _
        simp only [Act.put]
        go_wp2_with fail
        exact bodyPost_ret (v := .tuple #[.agg (arrA (!(a == b)) (dg (m / n))), .agg (arrA false (dg (m % n)))]) (res_row2 rfl _ _ _ _ _ _ _ 17 17 rfl rfl (BlkR (by omega) B2.setRow_) C3.setRow_ long_wide long_wide (arr_size _ _) (arr_size _ _)) rfl ⟨rfl, (by repeat (first | with_reducible exact Below.refl _ _ | with_reducible assumption | with_reducible refine ExtD ?_ | with_reducible refine ExtDN ?_ | with_reducible refine ExtA ?_ | (with_reducible refine ExtR ?_ ?_; (first | omega | (dsimp only; omega) | (simp; done) | (simp; omega))) | (with_reducible refine ExtS ?_ ?_; (first | omega | (dsimp only; omega) | (simp; done) | (simp; omega))) | with_reducible refine Ext.tr ?_ (by with_reducible assumption)))⟩
end Go.Proofs.YtjomgppbialeoaaGreat
