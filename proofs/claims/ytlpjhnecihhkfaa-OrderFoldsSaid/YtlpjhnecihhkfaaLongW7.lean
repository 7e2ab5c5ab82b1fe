/-
  The walk of the reference's Times.
-/
import Derived.Test.YtlpjhnecihhkfaaLongW1
import Derived.Test.YtlpjhnecihhkfaaLongP
namespace Go.Proofs.Ytlpjhnecihhkfaa
open Go.RowKit
set_option linter.unusedVariables false
set_option linter.unusedSimpArgs false
def TimB (w : World) (a b : Bool) (m n Z : Nat) (wr : World) : Prop :=
  Ext w wr ∧ Blk wr w.heap.size 85 (arrA a (dg m)) ∧ Blk wr (w.heap.size + 1) 85 (arrA b (dg n)) ∧ Blk wr (w.heap.size + 1 + 1) 85 (arrA false (fun _ => 0)) ∧
    Blk wr (w.heap.size + 1 + 1 + 1) 85 (arrA false (dg Z))
def TimR1 (w : World) (a b : Bool) (m n : Nat) (i : Value) (wr : World) : Prop := ∃ k : Nat, k ≤ 8 ∧ i = .int .i64 k ∧ TimB w a b m n (m % 65536 ^ k * n) wr
def TimR2 (w : World) (a b : Bool) (m n i : Nat) (c j : Value) (wr : World) : Prop :=
  ∃ k Z x : Nat, k ≤ 8 ∧ j = .int .i64 k ∧ c = .int .u64 (x : Int) ∧ x < 65536 ∧ Z + x * 65536 ^ (i + k) = m % 65536 ^ i * n + dg m i * (n % 65536 ^ k) * 65536 ^ i ∧ TimB w a b m n Z wr
def TimR3 (w : World) (a b : Bool) (m n i : Nat) (c j : Value) (wr : World) : Prop :=
  ∃ k Z x : Nat, k ≤ 16 ∧ j = .int .i64 k ∧ c = .int .u64 (x : Int) ∧ x < 65536 ∧ Z + x * 65536 ^ k = m % 65536 ^ (i + 1) * n ∧ TimB w a b m n Z wr
theorem timB_set {w wr : World} {a b : Bool} {m n Z k x : Nat} (h : TimB w a b m n Z wr) (hk : k < 16) (hx : x < 65536) (q : Nat) :
    TimB w a b m n (setD Z k x) ((wr.drewN q).setCell ⟨w.heap.size + 1 + 1 + 1, 1 + k, none⟩ (.int .u64 (x : Int))) := by
  obtain ⟨hx0, b0, b1, b2, b3⟩ := h
  refine ⟨exA, bkA, bkA, bkA, ?_⟩
  have e : arrA false (dg (setD Z k x)) = arrA false (fun j => if j = k then x else dg Z j) := arr_ext fun j _ => dg_setD Z k x j hx
  rw [e, ← arr_set _ _ _ _ hk]
  exact bkA
theorem prod_dg (m n i j : Nat) : dg m i * dg n j ≤ 65535 * 65535 := Nat.mul_le_mul (by have := dg_lt m i; omega) (by have := dg_lt n j; omega)
set_option maxHeartbeats 4000000 in
theorem times_any (a b : Bool) (m n : Nat) (w : World) (hm : m < 65536 ^ 8) (hn : n < 65536 ^ 8) :
    Calls Try.prog 57 #[longV a m, longV b n] w fun e w' => e = .returned (longV (a != b) (m * n)) ∧ Ext w w' := by
  have Hm := Lib.hid hm
  have Hn := Lib.hid hn
  clear hm hn
  have z2 := arr_zero false
  have Z0 := Lib.hid (show arrA false (fun _ => 0) = arrA false (dg (m % 65536 ^ 0 * n)) from arr_ext fun j _ => by simp [dg, Nat.mod_one])
  unfold longV
  go_enter Try.func57, Try.ntmps57
  go_wp2_with (with_reducible refine wpL_store_new rfl 85 (.tmp 5) (.tmp 12) rfl (w.heap.size + 1 + 1 + 1) 85 (arrA false fun _ => 0) (arrA false fun _ => 0) rfl rfl (by simp) (by rw [arr_size]) (arr_one _ _) 17 long_wide (arr_size _ _) ?_)
  clear z2
  go_loopw [6] (fun i wr => TimR1 w a b m n i wr) (fun i _ => 8 - (intOf i).toNat)
  case atStart => exact ⟨0, by omega, rfl, exA, bkA, bkA, bkA, by rw [← Z0.out]; exact bkA⟩
  case round =>
    obtain ⟨i, hi, rfl, hB⟩ := hrel
    by_cases hlt : i < 8
    · obtain ⟨wo, rfl⟩ : ∃ wo : World, wo = wr := ⟨_, rfl⟩
      have hdec : decide ((i : Int) < 8) = true := by simp; omega
      go_wp2_with fail
      go_loopw [7, 8] (fun c j wr => TimR2 w a b m n i c j wr) (fun _ j _ => 8 - (intOf j).toNat)
      case atStart => exact ⟨0, _, 0, by omega, rfl, rfl, by omega, by simp [Nat.mod_one], hB⟩
      case round =>
        obtain ⟨j, Z, c, hj, rfl, rfl, hc, hV, hB2⟩ := hrel
        have HV := Lib.hid hV
        have HB2 := Lib.hid hB2
        clear hV
        by_cases hlj : j < 8
        · obtain ⟨hx, b0, b1, b2, b3⟩ := hB2
          have k0 := (b0.cell (1 + i)).trans (arr_get _ _ i (by omega))
          have k1 := (b1.cell (1 + j)).trans (arr_get _ _ j (by omega))
          have k3 := (b3.cell (1 + (i + j))).trans (arr_get _ _ (i + j) (by omega))
          have f3 := b3.frozen (1 + (i + j))
          have hpd := prod_dg m n i j
          have hdz := dg_lt Z (i + j)
          obtain ⟨t, Ht⟩ : ∃ t, Hid (t = dg m i * dg n j) := ⟨_, rfl⟩
          rw [← Ht.out] at hpd
          have q0 : IntKind.u64.wrap (((dg m i : Nat) : Int) * ((dg n j : Nat) : Int)) = (t : Int) := by
            rw [show ((dg m i : Nat) : Int) * ((dg n j : Nat) : Int) = (t : Int) by rw [Ht.out]; simp, IntKind.wrap_u64]; omega
          have q1 : IntKind.u64.wrap (((dg Z (i + j) : Nat) : Int) + (t : Int)) = ((dg Z (i + j) : Nat) : Int) + (t : Int) := by rw [IntKind.wrap_u64]; omega
          have q2 : IntKind.u64.wrap (((dg Z (i + j) : Nat) : Int) + (t : Int) + (c : Int)) = ((dg Z (i + j) : Nat) : Int) + (t : Int) + (c : Int) := by rw [IntKind.wrap_u64]; omega
          have q3 : IntKind.i64.wrap ((i : Int) + (j : Int)) = (i : Int) + (j : Int) := by rw [IntKind.wrap_i64]; omega
          have q4 : (0 : Int) ≤ (i : Int) + (j : Int) := by omega
          have q5 : ((i : Int) + (j : Int)).toNat = i + j := by omega
          have q6 : i + j < 16 := by omega
          go_wp2_with fail
          go_quiet (fail)
          clear q0 q1 q2 q3 q5
          have hcs := carry_small _ _ _ hdz hpd hc
          have r1 : (((dg Z (i + j) : Nat) : Int) + (t : Int) + (c : Int)) % 65536 = (((dg Z (i + j) + t + c) % 65536 : Nat) : Int) := by omega
          have r2 : (((dg Z (i + j) : Nat) : Int) + (t : Int) + (c : Int)) / 65536 = (((dg Z (i + j) + t + c) / 65536 : Nat) : Int) := by omega
          obtain ⟨x, Hx⟩ : ∃ x, Hid (x = (dg Z (i + j) + t + c) % 65536) := ⟨_, rfl⟩
          obtain ⟨y, Hy⟩ : ∃ y, Hid (y = (dg Z (i + j) + t + c) / 65536) := ⟨_, rfl⟩
          rw [← Hx.out] at r1
          rw [← Hy.out] at r2 hcs
          go_wp2_with fail
          go_roundw
          case rel =>
            refine ⟨j + 1, setD Z (i + j) x, y, by omega, by go_num, by rw [r2], hcs, ?_, timB_set HB2.out q6 (by rw [Hx.out]; omega) _⟩
            rw [Hx.out, Hy.out, Ht.out]
            exact row_next m n i j Z c HV.out
          case measure => simp [intOf]; omega
        · have hj8 : j = 8 := by omega
          subst hj8
          rw [show ((8 : Nat) : Int) = 8 from rfl]
          have hV8 := HV.out
          rw [row_done m n i Hn.out] at hV8
          have HV8 := Lib.hid hV8
          have hpp := prod16 m n (i + 1) Hm.out Hn.out
          have Hpp := Lib.hid hpp
          clear hB2 hV8 hpp
          go_wp2_with fail
          obtain ⟨wo2, rfl⟩ : ∃ wo : World, wo = wr := ⟨_, rfl⟩
          go_loopw [7, 10] (fun c j wr => TimR3 w a b m n i c j wr) (fun _ j _ => 16 - (intOf j).toNat)
          case atStart => exact ⟨i + 8, Z, c, by omega, by go_num, rfl, hc, HV8.out, HB2.out⟩
          case round =>
            clear hc
            obtain ⟨k, Z, c, hk, rfl, rfl, hc, hV, hB3⟩ := hrel
            have HV3 := Lib.hid hV
            have HB3 := Lib.hid hB3
            clear hV
            by_cases hgo : k < 16 ∧ 0 < c
            · obtain ⟨hk16, hc0⟩ := hgo
              obtain ⟨hx, b0, b1, b2, b3⟩ := hB3
              have k3 := (b3.cell (1 + k)).trans (arr_get _ _ k hk16)
              have f3 := b3.frozen (1 + k)
              have hdz := dg_lt Z k
              have kk : (0 : Int) < (c : Int) := by omega
              have r1 : (((dg Z k : Nat) : Int) + (c : Int)) % 65536 = (((dg Z k + 0 + c) % 65536 : Nat) : Int) := by omega
              have r2 : (((dg Z k : Nat) : Int) + (c : Int)) / 65536 = (((dg Z k + 0 + c) / 65536 : Nat) : Int) := by omega
              have hcs : (dg Z k + 0 + c) / 65536 < 65536 := by omega
              obtain ⟨x, Hx⟩ : ∃ x, Hid (x = (dg Z k + 0 + c) % 65536) := ⟨_, rfl⟩
              obtain ⟨y, Hy⟩ : ∃ y, Hid (y = (dg Z k + 0 + c) / 65536) := ⟨_, rfl⟩
              rw [← Hx.out] at r1
              rw [← Hy.out] at r2 hcs
              go_wp2_with fail
              go_roundw
              case rel =>
                have hstep : setD Z k x + y * 65536 ^ (k + 1) = m % 65536 ^ (i + 1) * n := by rw [Hx.out, Hy.out, setD_step Z k c 0 _ HV3.out, Nat.zero_mul, Nat.add_zero]
                exact ⟨k + 1, setD Z k x, y, by omega, by go_num, by rw [r2], hcs, hstep, timB_set HB3.out hk16 (by rw [Hx.out]; omega) 0⟩
              case measure => simp [intOf]; omega
            · have hZ : Z = m % 65536 ^ (i + 1) * n := by
                by_cases hc0 : c = 0
                · have := HV3.out; rw [hc0, Nat.zero_mul, Nat.add_zero] at this; exact this
                · have hk16 : k = 16 := by omega
                  have h := HV3.out
                  have h2 := Hpp.out
                  rw [hk16] at h
                  have h3 : 1 * 65536 ^ 16 ≤ c * 65536 ^ 16 := Nat.mul_le_mul_right _ (by omega)
                  omega
              have HZ := Lib.hid hZ
              clear hZ
              by_cases hk16 : k < 16
              · have hc0 : c = 0 := by omega
                subst hc0
                go_wp2_with fail
                go_roundw
                case rel => exact ⟨i + 1, by omega, by go_num, by rw [← HZ.out]; exact HB3.out⟩
                case measure => simp [intOf]; omega
              · go_wp2_with fail
                go_roundw
                case rel => exact ⟨i + 1, by omega, by go_num, by rw [← HZ.out]; exact HB3.out⟩
                case measure => simp [intOf]; omega
    · have hi8 : i = 8 := by omega
      subst hi8
      have hB8 := hB
      rw [Nat.mod_eq_of_lt Hm.out] at hB8
      obtain ⟨hx, b0, b1, b2, b3⟩ := hB8
      have g0 := (b0.cell 0).trans (arr_get0 a (dg m))
      have g1 := (b1.cell 0).trans (arr_get0 b (dg n))
      have g3 := (b3.cell 0).trans (arr_get0 false (dg (m * n)))
      have f3 := b3.frozen 0
      have B3 := BlkS (i := 0) (u := .bool (!(a == b))) b3
      rw [arr_set0] at B3
      have hxs := ExtS (p := ⟨w.heap.size + 1 + 1 + 1, 0, none⟩) (v := .bool (!(a == b))) (by dsimp only; omega) hx
      have B2 := BlkF (p := ⟨w.heap.size + 1 + 1 + 1, 0, none⟩) (u := .bool (!(a == b))) (by dsimp only; omega) b2
      go_upto_region 19 with fail
      obtain ⟨W, HW⟩ : ∃ W, Hid (W = wr.setCell ⟨w.heap.size + 1 + 1 + 1, 0, none⟩ (.bool (!(a == b)))) := ⟨_, rfl⟩
      rw [← HW.out] at B3 B2 hxs
      rw [← HW.out]
      clear g0 g1 g3 f3
      go_wp2_with (first
        | (with_reducible refine wpL_load_row rfl 85 (.tmp 5) rfl _ 85 (arrA (!(a == b)) (dg (m * n))) 17 rfl B3 long_wide (arr_size _ _) ?_)
        | (with_reducible refine wpL_store_row rfl 85 (.tmp 4) (.tmp 77) rfl _ 85 (arrA false fun _ => 0) (arrA (!(a == b)) (dg (m * n))) rfl rfl B2 (by rw [arr_size, arr_size]) (arr_one _ _) 17 long_wide (arr_size _ _) ?_))
      exact bodyPost_ret (v := .agg (arrA (!(a == b)) (dg (m * n)))) (res_row rfl _ _ _ 85 _ 17 rfl B2.setRow_ long_wide (arr_size _ _)) rfl ⟨rfl, exA⟩
end Go.Proofs.Ytlpjhnecihhkfaa
