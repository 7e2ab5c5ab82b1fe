/-
  The walk of the long numbers' up.
-/
/-
  The walks of the long numbers' down.
-/
/-
  The walks of the long numbers' Cmp and Of.
-/
/-
  The walks of the long numbers' Plus and Fits.
-/
/-
  The walk of the long numbers' Fits.
-/
/-
  The walk of the reference's Times.
-/
/-
  The walk of the reference's Over.
-/
/-
  The walk of the reference's MulDiv, and of the law NumDivs.
-/
import Derived.Test.YtjajbbgebblalaaGreatDoorShrT
import Derived.Test.YtjajbbgebblalaaGreatDoorProg
import Derived.Test.YtjajbbgebblalaaGreatDoorLongP
import Derived.Test.YtjajbbgebblalaaGreatDoorSteps
import Derived.Laws.ShiftsVarLaws
import Derived.Test.YtjajbbgebblalaaGreatDoorNumW3
namespace Go.Proofs.YtjajbbgebblalaaGreatDoor
open Go.RowKit
set_option linter.unusedVariables false
set_option linter.unusedSimpArgs false
theorem dgI_bd (n i : Nat) : (0 : Int) ≤ (dg n i : Int) ∧ (dg n i : Int) < 65536 := by have := dg_lt n i; omega
def UpR (w : World) (a b : Bool) (m n : Nat) (c i : Value) (wr : World) : Prop :=
  ∃ k : Nat, k ≤ 16 ∧ i = .int .i64 k ∧ c = .int .u64 (carry m n k : Nat) ∧ Ext w wr ∧ Blk wr w.heap.size 314 (arrA a (dg m)) ∧ Blk wr (w.heap.size + 1) 314 (arrA b (dg n)) ∧
    Blk wr (w.heap.size + 1 + 1) 314 (arrA false (fun _ => 0)) ∧ Blk wr (w.heap.size + 1 + 1 + 1) 314 (arrA a (upto (m + n) k))
theorem long_wide : Wide Tryz.prog 314 17 := ⟨⟨_, Tryz.underlying314, rfl⟩, by kernel_rfl⟩
set_option maxHeartbeats 1000000 in
theorem up_any (a b : Bool) (m n : Nat) (w : World) :
    Calls Tryz.prog 249 #[longV a m, longV b n] w fun e w' => e = .returned (longV a (m + n)) ∧ Ext w w' := by
  have g0 := arr_get0 a (dg m)
  have z2 := arr_zero false
  have s0 := arr_set0 false a (fun _ => 0)
  unfold longV
  go_enter Tryz.func249, Tryz.ntmps249
  go_wp2_with (with_reducible refine wpL_store_new rfl 314 (.tmp 5) (.tmp 11) rfl (w.heap.size + 1 + 1 + 1) 314 (arrA false fun _ => 0) (arrA a fun _ => 0) rfl rfl (by simp) (by rw [arr_size, arr_size]) (arr_one _ _) 17 long_wide (arr_size _ _) ?_)
  go_loopw [6, 7] (fun c i wr => UpR w a b m n c i wr) (fun _ i _ => 16 - (intOf i).toNat)
  case atStart => exact ⟨0, by omega, rfl, by rw [carry_zero]; rfl, exA, bkA, bkA, bkA, by rw [← upto_zero]; exact bkA⟩
  case round =>
    obtain ⟨k, hk, rfl, rfl, hx, b0, b1, b2, b3⟩ := hrel
    by_cases hlt : k < 16
    · have c0 := (b0.cell (1 + k)).trans (arr_get _ _ k hlt)
      have c1 := (b1.cell (1 + k)).trans (arr_get _ _ k hlt)
      have c3 := (b3.cell (1 + k)).trans (arr_get _ _ k hlt)
      have f3 := b3.frozen (1 + k)
      have d0 := dgI_bd m k
      have d1 := dgI_bd n k
      have d2 := carry_le m n k
      have w1 : IntKind.u64.wrap ((dg m k : Int) + (dg n k : Int)) = (dg m k : Int) + (dg n k : Int) := by rw [IntKind.wrap_u64]; omega
      have w2 : IntKind.u64.wrap ((dg m k : Int) + (dg n k : Int) + (carry m n k : Nat)) = (dg m k : Int) + (dg n k : Int) + (carry m n k : Nat) := by rw [IntKind.wrap_u64]; omega
      go_wp2_with fail
      go_quiet (fail)
      clear w1 w2
      have e3 : ((dg m k : Int) + (dg n k : Int) + (carry m n k : Nat)) % 65536 = ((dg (m + n) k : Nat) : Int) := by rw [dg_add]; omega
      go_wp2_with fail
      go_roundw
      case rel => exact ⟨k + 1, by omega, by go_num, by rw [carry_next]; simp, exA, bkA, bkA, bkA, by rw [← upto_next, ← arr_set _ _ _ _ hlt]; exact bkA⟩
      case measure => simp [intOf]; omega
    · have hk16 : k = 16 := by omega
      subst hk16
      rw [upto_all] at b3
      go_wp2_with (first
        | with_reducible refine wpL_load_row rfl 314 (.tmp 5) rfl _ 314 (arrA a (dg (m + n))) 17 rfl b3 long_wide (arr_size _ _) ?_
        | with_reducible refine wpL_store_row rfl 314 (.tmp 4) (.tmp 34) rfl _ 314 (arrA false fun _ => 0) (arrA a (dg (m + n))) rfl rfl b2 (by rw [arr_size, arr_size]) (arr_one _ _) 17 long_wide (arr_size _ _) ?_)
      exact bodyPost_ret (v := .agg (arrA a (dg (m + n)))) (res_row rfl _ _ _ 314 _ 17 rfl b2.setRow_ long_wide (arr_size _ _)) rfl ⟨rfl, exA⟩
end Go.Proofs.YtjajbbgebblalaaGreatDoor

namespace Go.Proofs.YtjajbbgebblalaaGreatDoor
open Go.RowKit
set_option linter.unusedVariables false
set_option linter.unusedSimpArgs false
def DownR (w : World) (a b : Bool) (m n : Nat) (c i : Value) (wr : World) : Prop :=
  ∃ k : Nat, k ≤ 16 ∧ i = .int .i64 k ∧ c = .int .u64 (borrow m n k : Nat) ∧ Ext w wr ∧ Blk wr w.heap.size 314 (arrA a (dg m)) ∧ Blk wr (w.heap.size + 1) 314 (arrA b (dg n)) ∧
    Blk wr (w.heap.size + 1 + 1) 314 (arrA false (fun _ => 0)) ∧ Blk wr (w.heap.size + 1 + 1 + 1) 314 (arrA a (upto (m - n) k))
set_option maxHeartbeats 1000000 in
theorem down_any (a b : Bool) (m n : Nat) (w : World) (hnm : n ≤ m) :
    Calls Tryz.prog 251 #[longV a m, longV b n] w fun e w' => e = .returned (longV a (m - n)) ∧ Ext w w' := by
  have g0 := arr_get0 a (dg m)
  have z2 := arr_zero false
  have s0 := arr_set0 false a (fun _ => 0)
  unfold longV
  go_enter Tryz.func251, Tryz.ntmps251
  go_wp2_with (with_reducible refine wpL_store_new rfl 314 (.tmp 5) (.tmp 11) rfl (w.heap.size + 1 + 1 + 1) 314 (arrA false fun _ => 0) (arrA a fun _ => 0) rfl rfl (by simp) (by rw [arr_size, arr_size]) (arr_one _ _) 17 long_wide (arr_size _ _) ?_)
  go_loopw [6, 7] (fun c i wr => DownR w a b m n c i wr) (fun _ i _ => 16 - (intOf i).toNat)
  case atStart => exact ⟨0, by omega, rfl, by rw [borrow_zero]; rfl, exA, bkA, bkA, bkA, by rw [← upto_zero]; exact bkA⟩
  case round =>
    obtain ⟨k, hk, rfl, rfl, hx, b0, b1, b2, b3⟩ := hrel
    by_cases hlt : k < 16
    · have c0 := (b0.cell (1 + k)).trans (arr_get _ _ k hlt)
      have c1 := (b1.cell (1 + k)).trans (arr_get _ _ k hlt)
      have c3 := (b3.cell (1 + k)).trans (arr_get _ _ k hlt)
      have f3 := b3.frozen (1 + k)
      have d0 := dgI_bd m k
      have d1 := dgI_bd n k
      have d2 := borrow_le m n k
      have w1 : IntKind.u64.wrap ((dg m k : Int) + 65536) = (dg m k : Int) + 65536 := by rw [IntKind.wrap_u64]; omega
      have w2 : IntKind.u64.wrap ((dg m k : Int) + 65536 - (dg n k : Int)) = (dg m k : Int) + 65536 - (dg n k : Int) := by rw [IntKind.wrap_u64]; omega
      have w3 : IntKind.u64.wrap ((dg m k : Int) + 65536 - (dg n k : Int) - (borrow m n k : Nat)) = (dg m k : Int) + 65536 - (dg n k : Int) - (borrow m n k : Nat) := by rw [IntKind.wrap_u64]; omega
      go_wp2_with fail
      go_quiet (fail)
      clear w1 w2 w3
      have e3 : ((dg m k : Int) + 65536 - (dg n k : Int) - (borrow m n k : Nat)) % 65536 = ((dg (m - n) k : Nat) : Int) := by rw [dg_sub m n k hnm]; omega
      have B3 := Lib.hid (borrow_next m n k)
      go_wp2_with fail
      go_roundw
      case rel => exact ⟨k + 1, by omega, by go_num, by rw [B3.out]; go_num, exA, bkA, bkA, bkA, by rw [← upto_next, ← arr_set _ _ _ _ hlt]; exact bkA⟩
      case measure => simp [intOf]; omega
    · have hk16 : k = 16 := by omega
      subst hk16
      rw [upto_all] at b3
      go_wp2_with (first
        | with_reducible refine wpL_load_row rfl 314 (.tmp 5) rfl _ 314 (arrA a (dg (m - n))) 17 rfl b3 long_wide (arr_size _ _) ?_
        | with_reducible refine wpL_store_row rfl 314 (.tmp 4) (.tmp 36) rfl _ 314 (arrA false fun _ => 0) (arrA a (dg (m - n))) rfl rfl b2 (by rw [arr_size, arr_size]) (arr_one _ _) 17 long_wide (arr_size _ _) ?_)
      exact bodyPost_ret (v := .agg (arrA a (dg (m - n)))) (res_row rfl _ _ _ 314 _ 17 rfl b2.setRow_ long_wide (arr_size _ _)) rfl ⟨rfl, exA⟩
end Go.Proofs.YtjajbbgebblalaaGreatDoor

namespace Go.Proofs.YtjajbbgebblalaaGreatDoor
open Go.RowKit
set_option linter.unusedVariables false
set_option linter.unusedSimpArgs false
def cmpI (m n : Nat) : Int := if m < n then -1 else if n < m then 1 else 0
theorem cmpI_lt {m n : Nat} (h : m < n) : cmpI m n = -1 := by simp [cmpI, h]
theorem cmpI_gt {m n : Nat} (h : n < m) : cmpI m n = 1 := by simp [cmpI, h, Nat.lt_asymm h]
theorem cmpI_eq {m n : Nat} (h : m = n) : cmpI m n = 0 := by subst h; simp [cmpI]
theorem ret_int {k : IntKind} {a b : Int} (h : a = b) : Ending.returned (.int k a) = .returned (.int k b) := by rw [h]
def CmpR (w : World) (a b : Bool) (m n : Nat) (i : Value) (wr : World) : Prop :=
  ∃ k : Nat, k ≤ 16 ∧ i = .int .i64 ((k : Int) - 1) ∧ Ext w wr ∧ Blk wr w.heap.size 314 (arrA a (dg m)) ∧ Blk wr (w.heap.size + 1) 314 (arrA b (dg n)) ∧ m / 65536 ^ k = n / 65536 ^ k
set_option maxHeartbeats 1000000 in
theorem cmp_any (a b : Bool) (m n : Nat) (w : World) (hm : m < 65536 ^ 16) (hn : n < 65536 ^ 16) :
    Calls Tryz.prog 250 #[longV a m, longV b n] w fun e w' => e = .returned (.int .i64 (cmpI m n)) ∧ Ext w w' := by
  have h16 : m / 65536 ^ 16 = n / 65536 ^ 16 := by rw [Nat.div_eq_of_lt hm, Nat.div_eq_of_lt hn]
  have H16 := Lib.hid h16
  clear hm hn h16
  unfold longV
  go_enter Tryz.func250, Tryz.ntmps250
  go_wp2_with fail
  go_loopw [5] (fun i wr => CmpR w a b m n i wr) (fun i _ => (intOf i + 1).toNat)
  case atStart => exact ⟨16, by omega, rfl, exA, bkA, bkA, H16.out⟩
  case round =>
    obtain ⟨k, hk, rfl, hx, b0, b1, heq⟩ := hrel
    have Heq := Lib.hid heq
    clear heq
    by_cases hlt : 0 < k
    · obtain ⟨k, rfl⟩ : ∃ j, k = j + 1 := ⟨k - 1, by omega⟩
      have e1 : ((k + 1 : Nat) : Int) - 1 = k := by omega
      rw [e1]
      have c0 := (b0.cell (1 + k)).trans (arr_get _ _ k (by omega))
      have c1 := (b1.cell (1 + k)).trans (arr_get _ _ k (by omega))
      obtain ⟨p1, p2, p3⟩ := cmp_at m n k Heq.out
      have P1 := Lib.hid p1
      have P2 := Lib.hid p2
      have P3 := Lib.hid p3
      clear p1 p2 p3 e1 Heq
      rcases Nat.lt_trichotomy (dg m k) (dg n k) with h | h | h
      · go_wp2_with fail
        go_quiet (fail)
        go_wp2_with fail
        go_ret
        exact ⟨ret_int (cmpI_lt (P1.out h)).symm, exA⟩
      · have h1 : ¬ dg m k < dg n k := by omega
        have h2 : ¬ dg n k < dg m k := by omega
        have H := Lib.hid h
        clear h
        go_wp2_with fail
        go_quiet (fail)
        go_wp2_with fail
        go_quiet (fail)
        go_wp2_with fail
        go_roundw
        case rel => exact ⟨k, by omega, by simp, exA, bkA, bkA, P3.out H.out⟩
        case measure => simp [intOf]
      · have h1 : ¬ dg m k < dg n k := by omega
        go_wp2_with fail
        go_quiet (fail)
        go_wp2_with fail
        go_quiet (fail)
        go_wp2_with fail
        go_ret
        exact ⟨ret_int (cmpI_gt (P2.out h)).symm, exA⟩
    · have hk0 : k = 0 := by omega
      subst hk0
      go_wp2_with fail
      go_ret
      exact ⟨ret_int (cmpI_eq (by simpa using Heq.out)).symm, exA⟩
def OfR (w : World) (b : Bool) (n : Nat) (u i : Value) (wr : World) : Prop :=
  ∃ k : Nat, k ≤ 4 ∧ i = .int .i64 k ∧ u = .int .u64 (n / 65536 ^ k : Nat) ∧ Ext w wr ∧ Blk wr w.heap.size 314 (arrA false (fun _ => 0)) ∧ Blk wr (w.heap.size + 1) 314 (arrA b (upto n k))
theorem upto_4 (b : Bool) (n : Nat) (h : n < 18446744073709551616) : arrA b (upto n 4) = arrA b (dg n) := by
  refine arr_ext fun j _ => ?_
  unfold upto
  split
  · rfl
  · unfold dg
    rw [Nat.div_eq_of_lt]
    have : 65536 ^ 4 ≤ 65536 ^ j := Nat.pow_le_pow_right (by decide) (by omega)
    omega
set_option maxHeartbeats 1000000 in
theorem of_any (v : Int) (w : World) (h0 : -9223372036854775808 ≤ v) (h1 : v ≤ 9223372036854775807) :
    Calls Tryz.prog 235 #[.int .i64 v] w fun e w' => e = .returned (longV (decide (v < 0)) (absN v)) ∧ Ext w w' := by
  have z2 := arr_zero false
  have s0 := arr_set0 false true (fun _ => 0)
  by_cases hneg : v < 0
  · have Hd := Lib.hid (show decide (v < 0) = true by simpa using hneg)
    have hw : IntKind.u64.wrap (-(v + 1)) = -(v + 1) := by rw [IntKind.wrap_u64]; omega
    go_enter Tryz.func235, Tryz.ntmps235
    go_wp2_with (with_reducible refine wpL_store_new rfl 314 (.tmp 3) (.tmp 6) rfl (w.heap.size + 1) 314 (arrA false fun _ => 0) (arrA false fun _ => 0) rfl rfl (by simp) (by rw [arr_size]) (arr_one _ _) 17 long_wide (arr_size _ _) ?_)
    clear s0 z2 hw
    have habs : absN v < 18446744073709551616 := by unfold absN; omega
    have hst : -(v + 1) + 1 = ((absN v / 65536 ^ 0 : Nat) : Int) := by simp [absN]; omega
    have Hst := Lib.hid hst
    clear hst
    obtain ⟨n, Hn⟩ : ∃ n, Hid (n = absN v) := ⟨_, rfl⟩
    rw [← Hn.out] at habs Hst
    go_loopw [4, 5] (fun u i wr => OfR w true n u i wr) (fun _ i _ => 4 - (intOf i).toNat)
    case atStart => exact ⟨0, by omega, rfl, by rw [Hst.out], exA, bkA, by rw [← upto_zero]; exact bkA⟩
    case round =>
      obtain ⟨k, hk, rfl, rfl, hx, b0, b1⟩ := hrel
      by_cases hlt : k < 4
      · have c1 := (b1.cell (1 + k)).trans (arr_get _ _ k (by omega))
        have f1 := b1.frozen (1 + k)
        have e1 : ((n / 65536 ^ k : Nat) : Int) % 65536 = ((dg n k : Nat) : Int) := by unfold dg; omega
        have e2 : ((n / 65536 ^ k : Nat) : Int) / 65536 = ((n / 65536 ^ (k + 1) : Nat) : Int) := by rw [Nat.pow_succ, ← Nat.div_div_eq_div_mul]; omega
        have hb : n / 65536 ^ k < 18446744073709551616 := Nat.lt_of_le_of_lt (Nat.div_le_self _ _) habs
        obtain ⟨q, Hq⟩ : ∃ q, Hid (q = n / 65536 ^ k) := ⟨_, rfl⟩
        obtain ⟨q2, Hq2⟩ : ∃ q, Hid (q = n / 65536 ^ (k + 1)) := ⟨_, rfl⟩
        rw [← Hq.out] at e1 e2 hb ⊢
        rw [← Hq2.out] at e2
        go_wp2_with fail
        go_roundw
        case rel => exact ⟨k + 1, by omega, by go_num, by rw [← Hq2.out], exA, bkA, by rw [← upto_next, ← arr_set _ _ _ _ (by omega)]; exact bkA⟩
        case measure => simp [intOf]; omega
      · have hk4 : k = 4 := by omega
        subst hk4
        rw [upto_4 _ _ habs] at b1
        go_wp2_with (first
          | with_reducible refine wpL_load_row rfl 314 (.tmp 3) rfl _ 314 (arrA true (dg n)) 17 rfl b1 long_wide (arr_size _ _) ?_
          | with_reducible refine wpL_store_row rfl 314 (.tmp 2) (.tmp 28) rfl _ 314 (arrA false fun _ => 0) (arrA true (dg n)) rfl rfl b0 (by rw [arr_size, arr_size]) (arr_one _ _) 17 long_wide (arr_size _ _) ?_)
        exact bodyPost_ret (v := .agg (arrA true (dg n))) (res_row rfl _ _ _ 314 _ 17 rfl b0.setRow_ long_wide (arr_size _ _)) rfl ⟨by rw [Hd.out, ← Hn.out], exA⟩
  · have Hd := Lib.hid (show decide (v < 0) = false by simpa using hneg)
    go_enter Tryz.func235, Tryz.ntmps235
    go_wp2_with (with_reducible refine wpL_store_new rfl 314 (.tmp 3) (.tmp 6) rfl (w.heap.size + 1) 314 (arrA false fun _ => 0) (arrA false fun _ => 0) rfl rfl (by simp) (by rw [arr_size]) (arr_one _ _) 17 long_wide (arr_size _ _) ?_)
    clear s0 z2
    have habs : absN v < 18446744073709551616 := by unfold absN; omega
    have hst : v = ((absN v / 65536 ^ 0 : Nat) : Int) := by simp [absN]; omega
    have Hst := Lib.hid hst
    clear hst
    obtain ⟨n, Hn⟩ : ∃ n, Hid (n = absN v) := ⟨_, rfl⟩
    rw [← Hn.out] at habs Hst
    go_loopw [4, 5] (fun u i wr => OfR w false n u i wr) (fun _ i _ => 4 - (intOf i).toNat)
    case atStart => exact ⟨0, by omega, rfl, by rw [Hst.out], exA, bkA, by rw [← upto_zero]; exact bkA⟩
    case round =>
      obtain ⟨k, hk, rfl, rfl, hx, b0, b1⟩ := hrel
      by_cases hlt : k < 4
      · have c1 := (b1.cell (1 + k)).trans (arr_get _ _ k (by omega))
        have f1 := b1.frozen (1 + k)
        have e1 : ((n / 65536 ^ k : Nat) : Int) % 65536 = ((dg n k : Nat) : Int) := by unfold dg; omega
        have e2 : ((n / 65536 ^ k : Nat) : Int) / 65536 = ((n / 65536 ^ (k + 1) : Nat) : Int) := by rw [Nat.pow_succ, ← Nat.div_div_eq_div_mul]; omega
        have hb : n / 65536 ^ k < 18446744073709551616 := Nat.lt_of_le_of_lt (Nat.div_le_self _ _) habs
        obtain ⟨q, Hq⟩ : ∃ q, Hid (q = n / 65536 ^ k) := ⟨_, rfl⟩
        obtain ⟨q2, Hq2⟩ : ∃ q, Hid (q = n / 65536 ^ (k + 1)) := ⟨_, rfl⟩
        rw [← Hq.out] at e1 e2 hb ⊢
        rw [← Hq2.out] at e2
        go_wp2_with fail
        go_roundw
        case rel => exact ⟨k + 1, by omega, by go_num, by rw [← Hq2.out], exA, bkA, by rw [← upto_next, ← arr_set _ _ _ _ (by omega)]; exact bkA⟩
        case measure => simp [intOf]; omega
      · have hk4 : k = 4 := by omega
        subst hk4
        rw [upto_4 _ _ habs] at b1
        go_wp2_with (first
          | with_reducible refine wpL_load_row rfl 314 (.tmp 3) rfl _ 314 (arrA false (dg n)) 17 rfl b1 long_wide (arr_size _ _) ?_
          | with_reducible refine wpL_store_row rfl 314 (.tmp 2) (.tmp 28) rfl _ 314 (arrA false fun _ => 0) (arrA false (dg n)) rfl rfl b0 (by rw [arr_size, arr_size]) (arr_one _ _) 17 long_wide (arr_size _ _) ?_)
        exact bodyPost_ret (v := .agg (arrA false (dg n))) (res_row rfl _ _ _ 314 _ 17 rfl b0.setRow_ long_wide (arr_size _ _)) rfl ⟨by rw [Hd.out, ← Hn.out], exA⟩
end Go.Proofs.YtjajbbgebblalaaGreatDoor

namespace Go.Proofs.YtjajbbgebblalaaGreatDoor
open Go.RowKit
set_option linter.unusedVariables false
set_option linter.unusedSimpArgs false
abbrev plusV (a b : Bool) (m n : Nat) : Value := longV (plusB a b m n) (plusN a b m n)
theorem plusV_eq {a b : Bool} {m n : Nat} (h : (a == b) = true) : plusV a b m n = longV a (m + n) := by
  have : a = b := by simpa using h
  simp [plusV, plusB, plusN, this]
theorem plusV_ge {a b : Bool} {m n : Nat} (h : (a == b) = false) (hc : n ≤ m) : plusV a b m n = longV a (m - n) := by
  have : ¬ a = b := by simpa using h
  simp [plusV, plusB, plusN, this, hc]
theorem plusV_lt {a b : Bool} {m n : Nat} (h : (a == b) = false) (hc : ¬ n ≤ m) : plusV a b m n = longV b (n - m) := by
  have : ¬ a = b := by simpa using h
  simp [plusV, plusB, plusN, this, hc]
theorem cmpI_ge {m n : Nat} (h : n ≤ m) : 0 ≤ cmpI m n := by unfold cmpI; split <;> (try split) <;> omega
theorem cmpI_neg {m n : Nat} (h : ¬ n ≤ m) : cmpI m n < 0 := by rw [cmpI_lt (by omega)]; decide
end Go.Proofs.YtjajbbgebblalaaGreatDoor

namespace Go.Proofs.YtjajbbgebblalaaGreatDoor
open Go.RowKit
set_option linter.unusedVariables false
set_option linter.unusedSimpArgs false
def FitR1 (w : World) (b : Bool) (m : Nat) (i : Value) (wr : World) : Prop :=
  ∃ k : Nat, 4 ≤ k ∧ k ≤ 16 ∧ i = .int .i64 k ∧ Ext w wr ∧ Blk wr w.heap.size 314 (arrA b (dg m)) ∧ ∀ j, 4 ≤ j → j < k → dg m j = 0
def FitR2 (w : World) (b : Bool) (m : Nat) (u i : Value) (wr : World) : Prop :=
  ∃ k : Nat, k ≤ 4 ∧ i = .int .i64 ((k : Int) - 1) ∧ u = .int .u64 ((m / 65536 ^ k : Nat) : Int) ∧ Ext w wr ∧ Blk wr w.heap.size 314 (arrA b (dg m))
theorem ret2 {k : IntKind} {a b : Int} {x y : Bool} (h : a = b) (h2 : x = y) : Ending.returned (.tuple #[.int k a, .bool x]) = .returned (.tuple #[.int k b, .bool y]) := by rw [h, h2]
set_option maxHeartbeats 2000000 in
theorem fits_any (b : Bool) (m : Nat) (w : World) (hm : m < 65536 ^ 16) :
    Calls Tryz.prog 236 #[longV b m] w fun e w' => e = .returned (.tuple #[.int .i64 (nf (sg b m)), .bool (fits64 (sg b m))]) ∧ Ext w w' := by
  have Hm := Lib.hid hm
  clear hm
  have g0 := arr_get0 b (dg m)
  unfold longV
  go_enter Tryz.func236, Tryz.ntmps236
  go_wp2_with fail
  go_loopw [4] (fun i wr => FitR1 w b m i wr) (fun i _ => 16 - (intOf i).toNat)
  case atStart => exact ⟨4, by omega, by omega, rfl, exA, bkA, fun j h1 h2 => by omega⟩
  case round =>
    obtain ⟨k, hk1, hk, rfl, hx, b0, hz⟩ := hrel
    have Hz := Lib.hid hz
    clear hz
    by_cases hlt : k < 16
    · have c0 := (b0.cell (1 + k)).trans (arr_get _ _ k hlt)
      by_cases hd : dg m k = 0
      · have Hd := Lib.hid hd
        rw [hd] at c0
        clear hd
        go_wp2_with fail
        go_roundw
        case rel => exact ⟨k + 1, by omega, by omega, by go_num, exA, bkA, fun j h1 h2 => by rcases Nat.lt_or_ge j k with h | h; exact Hz.out j h1 h; rw [show j = k by omega]; exact Hd.out⟩
        case measure => simp [intOf]; omega
      · have hbig := dg_big m k hk1 hd
        have hf := fits_big b m (by omega)
        have Hf := Lib.hid hf
        have hd1 : ((dg m k : Nat) : Int) ≠ 0 := by omega
        have hd2 : (((dg m k : Nat) : Int) == 0) = false := by simpa using hd
        clear hf hd hbig
        go_wp2_with fail
        go_ret2
        exact ⟨ret2 (by unfold nf; rw [Hf.out]; rfl) Hf.out.symm, exA⟩
    · have hk16 : k = 16 := by omega
      subst hk16
      have hs := dg_small m Hm.out Hz.out
      clear Hz Hm
      go_wp2_with fail
      obtain ⟨wo, rfl⟩ : ∃ wo : World, wo = wr := ⟨_, rfl⟩
      have h4 : m / 65536 ^ 4 = 0 := Nat.div_eq_of_lt hs
      go_loopw [5, 6] (fun u i wr => FitR2 w b m u i wr) (fun _ i _ => (intOf i + 1).toNat)
      case atStart => exact ⟨4, by omega, rfl, by rw [h4]; rfl, exA, bkA⟩
      case round =>
        obtain ⟨k, hk, rfl, rfl, hx2, b1⟩ := hrel
        clear h4 hx b0
        by_cases hlt : 0 < k
        · obtain ⟨k, rfl⟩ : ∃ j, k = j + 1 := ⟨k - 1, by omega⟩
          have e1 : ((k + 1 : Nat) : Int) - 1 = k := by omega
          rw [e1]
          have c0 := (b1.cell (1 + k)).trans (arr_get _ _ k (by omega))
          have q1 : m / 65536 ^ k = m / 65536 ^ (k + 1) * 65536 + dg m k := by unfold dg; rw [Nat.pow_succ, ← Nat.div_div_eq_div_mul]; omega
          have q2 : m / 65536 ^ k < 18446744073709551616 := Nat.lt_of_le_of_lt (Nat.div_le_self _ _) hs
          have d0 := dg_lt m k
          obtain ⟨q, Hq⟩ : ∃ q, Hid (q = m / 65536 ^ k) := ⟨_, rfl⟩
          obtain ⟨p, Hp⟩ : ∃ q, Hid (q = m / 65536 ^ (k + 1)) := ⟨_, rfl⟩
          rw [← Hp.out] at q1 ⊢
          rw [← Hq.out] at q1 q2
          have q3 : p * 65536 + dg m k < 18446744073709551616 := by omega
          have Q1 := Lib.hid q1
          clear q1 q2 e1
          go_wp2_with fail
          go_roundw
          case rel => exact ⟨k, by omega, by simp, by rw [← Hq.out, Q1.out]; go_num, exA, bkA⟩
          case measure => simp [intOf]
        · have hk0 : k = 0 := by omega
          subst hk0
          rw [Nat.pow_zero, Nat.div_one]
          have c0 := (b1.cell 0).trans g0
          cases b
          · have Hf := Lib.hid (fits_pos m)
            by_cases hm1 : m ≤ 9223372036854775807
            · go_wp2_with fail
              go_ret2
              exact ⟨ret2 (by unfold nf; rw [Hf.out]; simp [hm1, sg]) (by rw [Hf.out]; simp [hm1]), exA⟩
            · go_wp2_with fail
              go_ret2
              exact ⟨ret2 (by unfold nf; rw [Hf.out]; simp [hm1]) (by rw [Hf.out]; simp [hm1]), exA⟩
          · have Hf := Lib.hid (fits_neg m)
            by_cases hz : m = 0
            · subst hz
              go_wp2_with fail
              go_ret2
              exact ⟨ret2 (by decide) (by decide), exA⟩
            · have hpos : 0 < m := by omega
              clear hz
              by_cases hm1 : m ≤ 9223372036854775808
              · go_wp2_with fail
                go_ret2
                exact ⟨ret2 (by unfold nf; rw [Hf.out]; simp [hm1, sg]; omega) (by rw [Hf.out]; simp [hm1]), exA⟩
              · go_wp2_with fail
                go_ret2
                exact ⟨ret2 (by unfold nf; rw [Hf.out]; simp [hm1]) (by rw [Hf.out]; simp [hm1]), exA⟩
end Go.Proofs.YtjajbbgebblalaaGreatDoor

namespace Go.Proofs.YtjajbbgebblalaaGreatDoor
open Go.RowKit
set_option linter.unusedVariables false
set_option linter.unusedSimpArgs false
def TimB (w : World) (a b : Bool) (m n Z : Nat) (wr : World) : Prop :=
  Ext w wr ∧ Blk wr w.heap.size 314 (arrA a (dg m)) ∧ Blk wr (w.heap.size + 1) 314 (arrA b (dg n)) ∧ Blk wr (w.heap.size + 1 + 1) 314 (arrA false (fun _ => 0)) ∧
    Blk wr (w.heap.size + 1 + 1 + 1) 314 (arrA false (dg Z))
def TimR1 (w : World) (a b : Bool) (m n : Nat) (i : Value) (wr : World) : Prop := ∃ k : Nat, k ≤ 8 ∧ i = .int .i64 k ∧ TimB w a b m n (m % 65536 ^ k * n) wr
def TimR2 (w : World) (a b : Bool) (m n i : Nat) (c j : Value) (wr : World) : Prop :=
  ∃ k Z x : Nat, k ≤ 8 ∧ j = .int .i64 k ∧ c = .int .u64 (x : Int) ∧ x < 65536 ∧ Z + x * 65536 ^ (i + k) = m % 65536 ^ i * n + dg m i * (n % 65536 ^ k) * 65536 ^ i ∧ TimB w a b m n Z wr
def TimR3 (w : World) (a b : Bool) (m n i : Nat) (c j : Value) (wr : World) : Prop :=
  ∃ k Z x : Nat, k ≤ 16 ∧ j = .int .i64 k ∧ c = .int .u64 (x : Int) ∧ x < 65536 ∧ Z + x * 65536 ^ k = m % 65536 ^ (i + 1) * n ∧ TimB w a b m n Z wr
theorem timB_set {w wr : World} {a b : Bool} {m n Z k x : Nat} (h : TimB w a b m n Z wr) (hk : k < 16) (hx : x < 65536) (q : Nat) :
    TimB w a b m n (setD Z k x) ((wr.drewN q).setCell ⟨w.heap.size + 1 + 1 + 1, 1 + k, none⟩ (.int .u64 (x : Int))) := by
  obtain ⟨hx0, b0, b1, b2, b3⟩ := h
  refine ⟨exA, bkA, bkA, bkA, ?_⟩
  have e : arrA false (dg (setD Z k x)) = arrA false (fun j => if j = k then x else dg Z j) := arr_ext fun j _ => dg_setD Z k x j hx
  rw [e, ← arr_set _ _ _ _ hk]
  exact bkA
theorem prod_dg (m n i j : Nat) : dg m i * dg n j ≤ 65535 * 65535 := Nat.mul_le_mul (by have := dg_lt m i; omega) (by have := dg_lt n j; omega)
set_option maxHeartbeats 4000000 in
theorem times_any (a b : Bool) (m n : Nat) (w : World) (hm : m < 65536 ^ 8) (hn : n < 65536 ^ 8) :
    Calls Tryz.prog 234 #[longV a m, longV b n] w fun e w' => e = .returned (longV (a != b) (m * n)) ∧ Ext w w' := by
  have Hm := Lib.hid hm
  have Hn := Lib.hid hn
  clear hm hn
  have z2 := arr_zero false
  have Z0 := Lib.hid (show arrA false (fun _ => 0) = arrA false (dg (m % 65536 ^ 0 * n)) from arr_ext fun j _ => by simp [dg, Nat.mod_one])
  unfold longV
  go_enter Tryz.func234, Tryz.ntmps234
  go_wp2_with (with_reducible refine wpL_store_new rfl 314 (.tmp 5) (.tmp 12) rfl (w.heap.size + 1 + 1 + 1) 314 (arrA false fun _ => 0) (arrA false fun _ => 0) rfl rfl (by simp) (by rw [arr_size]) (arr_one _ _) 17 long_wide (arr_size _ _) ?_)
  clear z2
  go_loopw [6] (fun i wr => TimR1 w a b m n i wr) (fun i _ => 8 - (intOf i).toNat)
  case atStart => exact ⟨0, by omega, rfl, exA, bkA, bkA, bkA, by rw [← Z0.out]; exact bkA⟩
  case round =>
    obtain ⟨i, hi, rfl, hB⟩ := hrel
    by_cases hlt : i < 8
    · obtain ⟨wo, rfl⟩ : ∃ wo : World, wo = wr := ⟨_, rfl⟩
      have hdec : decide ((i : Int) < 8) = true := by simp; omega
      go_wp2_with fail
      go_loopw [7, 8] (fun c j wr => TimR2 w a b m n i c j wr) (fun _ j _ => 8 - (intOf j).toNat)
      case atStart => exact ⟨0, _, 0, by omega, rfl, rfl, by omega, by simp [Nat.mod_one], hB⟩
      case round =>
        obtain ⟨j, Z, c, hj, rfl, rfl, hc, hV, hB2⟩ := hrel
        have HV := Lib.hid hV
        have HB2 := Lib.hid hB2
        clear hV
        by_cases hlj : j < 8
        · obtain ⟨hx, b0, b1, b2, b3⟩ := hB2
          have k0 := (b0.cell (1 + i)).trans (arr_get _ _ i (by omega))
          have k1 := (b1.cell (1 + j)).trans (arr_get _ _ j (by omega))
          have k3 := (b3.cell (1 + (i + j))).trans (arr_get _ _ (i + j) (by omega))
          have f3 := b3.frozen (1 + (i + j))
          have hpd := prod_dg m n i j
          have hdz := dg_lt Z (i + j)
          obtain ⟨t, Ht⟩ : ∃ t, Hid (t = dg m i * dg n j) := ⟨_, rfl⟩
          rw [← Ht.out] at hpd
          have q0 : IntKind.u64.wrap (((dg m i : Nat) : Int) * ((dg n j : Nat) : Int)) = (t : Int) := by
            rw [show ((dg m i : Nat) : Int) * ((dg n j : Nat) : Int) = (t : Int) by rw [Ht.out]; simp, IntKind.wrap_u64]; omega
          have q1 : IntKind.u64.wrap (((dg Z (i + j) : Nat) : Int) + (t : Int)) = ((dg Z (i + j) : Nat) : Int) + (t : Int) := by rw [IntKind.wrap_u64]; omega
          have q2 : IntKind.u64.wrap (((dg Z (i + j) : Nat) : Int) + (t : Int) + (c : Int)) = ((dg Z (i + j) : Nat) : Int) + (t : Int) + (c : Int) := by rw [IntKind.wrap_u64]; omega
          have q3 : IntKind.i64.wrap ((i : Int) + (j : Int)) = (i : Int) + (j : Int) := by rw [IntKind.wrap_i64]; omega
          have q4 : (0 : Int) ≤ (i : Int) + (j : Int) := by omega
          have q5 : ((i : Int) + (j : Int)).toNat = i + j := by omega
          have q6 : i + j < 16 := by omega
          go_wp2_with fail
          go_quiet (fail)
          clear q0 q1 q2 q3 q5
          have hcs := carry_small _ _ _ hdz hpd hc
          have r1 : (((dg Z (i + j) : Nat) : Int) + (t : Int) + (c : Int)) % 65536 = (((dg Z (i + j) + t + c) % 65536 : Nat) : Int) := by omega
          have r2 : (((dg Z (i + j) : Nat) : Int) + (t : Int) + (c : Int)) / 65536 = (((dg Z (i + j) + t + c) / 65536 : Nat) : Int) := by omega
          obtain ⟨x, Hx⟩ : ∃ x, Hid (x = (dg Z (i + j) + t + c) % 65536) := ⟨_, rfl⟩
          obtain ⟨y, Hy⟩ : ∃ y, Hid (y = (dg Z (i + j) + t + c) / 65536) := ⟨_, rfl⟩
          rw [← Hx.out] at r1
          rw [← Hy.out] at r2 hcs
          go_wp2_with fail
          go_roundw
          case rel =>
            refine ⟨j + 1, setD Z (i + j) x, y, by omega, by go_num, by rw [r2], hcs, ?_, timB_set HB2.out q6 (by rw [Hx.out]; omega) _⟩
            rw [Hx.out, Hy.out, Ht.out]
            exact row_next m n i j Z c HV.out
          case measure => simp [intOf]; omega
        · have hj8 : j = 8 := by omega
          subst hj8
          rw [show ((8 : Nat) : Int) = 8 from rfl]
          have hV8 := HV.out
          rw [row_done m n i Hn.out] at hV8
          have HV8 := Lib.hid hV8
          have hpp := prod16 m n (i + 1) Hm.out Hn.out
          have Hpp := Lib.hid hpp
          clear hB2 hV8 hpp
          go_wp2_with fail
          obtain ⟨wo2, rfl⟩ : ∃ wo : World, wo = wr := ⟨_, rfl⟩
          go_loopw [7, 10] (fun c j wr => TimR3 w a b m n i c j wr) (fun _ j _ => 16 - (intOf j).toNat)
          case atStart => exact ⟨i + 8, Z, c, by omega, by go_num, rfl, hc, HV8.out, HB2.out⟩
          case round =>
            clear hc
            obtain ⟨k, Z, c, hk, rfl, rfl, hc, hV, hB3⟩ := hrel
            have HV3 := Lib.hid hV
            have HB3 := Lib.hid hB3
            clear hV
            by_cases hgo : k < 16 ∧ 0 < c
            · obtain ⟨hk16, hc0⟩ := hgo
              obtain ⟨hx, b0, b1, b2, b3⟩ := hB3
              have k3 := (b3.cell (1 + k)).trans (arr_get _ _ k hk16)
              have f3 := b3.frozen (1 + k)
              have hdz := dg_lt Z k
              have kk : (0 : Int) < (c : Int) := by omega
              have r1 : (((dg Z k : Nat) : Int) + (c : Int)) % 65536 = (((dg Z k + 0 + c) % 65536 : Nat) : Int) := by omega
              have r2 : (((dg Z k : Nat) : Int) + (c : Int)) / 65536 = (((dg Z k + 0 + c) / 65536 : Nat) : Int) := by omega
              have hcs : (dg Z k + 0 + c) / 65536 < 65536 := by omega
              obtain ⟨x, Hx⟩ : ∃ x, Hid (x = (dg Z k + 0 + c) % 65536) := ⟨_, rfl⟩
              obtain ⟨y, Hy⟩ : ∃ y, Hid (y = (dg Z k + 0 + c) / 65536) := ⟨_, rfl⟩
              rw [← Hx.out] at r1
              rw [← Hy.out] at r2 hcs
              go_wp2_with fail
              go_roundw
              case rel =>
                have hstep : setD Z k x + y * 65536 ^ (k + 1) = m % 65536 ^ (i + 1) * n := by rw [Hx.out, Hy.out, setD_step Z k c 0 _ HV3.out, Nat.zero_mul, Nat.add_zero]
                exact ⟨k + 1, setD Z k x, y, by omega, by go_num, by rw [r2], hcs, hstep, timB_set HB3.out hk16 (by rw [Hx.out]; omega) 0⟩
              case measure => simp [intOf]; omega
            · have hZ : Z = m % 65536 ^ (i + 1) * n := by
                by_cases hc0 : c = 0
                · have := HV3.out; rw [hc0, Nat.zero_mul, Nat.add_zero] at this; exact this
                · have hk16 : k = 16 := by omega
                  have h := HV3.out
                  have h2 := Hpp.out
                  rw [hk16] at h
                  have h3 : 1 * 65536 ^ 16 ≤ c * 65536 ^ 16 := Nat.mul_le_mul_right _ (by omega)
                  omega
              have HZ := Lib.hid hZ
              clear hZ
              by_cases hk16 : k < 16
              · have hc0 : c = 0 := by omega
                subst hc0
                go_wp2_with fail
                go_roundw
                case rel => exact ⟨i + 1, by omega, by go_num, by rw [← HZ.out]; exact HB3.out⟩
                case measure => simp [intOf]; omega
              · go_wp2_with fail
                go_roundw
                case rel => exact ⟨i + 1, by omega, by go_num, by rw [← HZ.out]; exact HB3.out⟩
                case measure => simp [intOf]; omega
    · have hi8 : i = 8 := by omega
      subst hi8
      have hB8 := hB
      rw [Nat.mod_eq_of_lt Hm.out] at hB8
      obtain ⟨hx, b0, b1, b2, b3⟩ := hB8
      have g0 := (b0.cell 0).trans (arr_get0 a (dg m))
      have g1 := (b1.cell 0).trans (arr_get0 b (dg n))
      have g3 := (b3.cell 0).trans (arr_get0 false (dg (m * n)))
      have f3 := b3.frozen 0
      have B3 := BlkS (i := 0) (u := .bool (!(a == b))) b3
      rw [arr_set0] at B3
      have hxs := ExtS (p := ⟨w.heap.size + 1 + 1 + 1, 0, none⟩) (v := .bool (!(a == b))) (by dsimp only; omega) hx
      have B2 := BlkF (p := ⟨w.heap.size + 1 + 1 + 1, 0, none⟩) (u := .bool (!(a == b))) (by dsimp only; omega) b2
      go_upto_region 19 with fail
      obtain ⟨W, HW⟩ : ∃ W, Hid (W = wr.setCell ⟨w.heap.size + 1 + 1 + 1, 0, none⟩ (.bool (!(a == b)))) := ⟨_, rfl⟩
      rw [← HW.out] at B3 B2 hxs
      rw [← HW.out]
      clear g0 g1 g3 f3
      go_wp2_with (first
        | (with_reducible refine wpL_load_row rfl 314 (.tmp 5) rfl _ 314 (arrA (!(a == b)) (dg (m * n))) 17 rfl B3 long_wide (arr_size _ _) ?_)
        | (with_reducible refine wpL_store_row rfl 314 (.tmp 4) (.tmp 77) rfl _ 314 (arrA false fun _ => 0) (arrA (!(a == b)) (dg (m * n))) rfl rfl B2 (by rw [arr_size, arr_size]) (arr_one _ _) 17 long_wide (arr_size _ _) ?_))
      exact bodyPost_ret (v := .agg (arrA (!(a == b)) (dg (m * n)))) (res_row rfl _ _ _ 314 _ 17 rfl B2.setRow_ long_wide (arr_size _ _)) rfl ⟨rfl, exA⟩
end Go.Proofs.YtjajbbgebblalaaGreatDoor

namespace Go.Proofs.YtjajbbgebblalaaGreatDoor
open Go.RowKit
set_option linter.unusedVariables false
set_option linter.unusedSimpArgs false
def OvB (w : World) (a b : Bool) (m n Q R : Nat) (wr : World) : Prop :=
  Ext w wr ∧ Blk wr w.heap.size 314 (arrA a (dg m)) ∧ Blk wr (w.heap.size + 1) 314 (arrA b (dg n)) ∧ Blk wr (w.heap.size + 1 + 1) 314 (arrA false (fun _ => 0)) ∧
    Blk wr (w.heap.size + 1 + 1 + 1) 314 (arrA false (fun _ => 0)) ∧ Blk wr (w.heap.size + 1 + 1 + 1 + 1) 314 (arrA false (dg Q)) ∧
    Blk wr (w.heap.size + 1 + 1 + 1 + 1 + 1) 314 (arrA false (dg R)) ∧ Blk wr (w.heap.size + 1 + 1 + 1 + 1 + 1 + 1) 314 (arrA false (dg n))
section
variable {w wr w' : World} {a b : Bool} {m n Q R : Nat}
theorem OvB.ext (h : OvB w a b m n Q R wr) (hx : Ext wr w') : OvB w a b m n Q R w' := by
  obtain ⟨h0, b0, b1, b2, b3, b4, b5, b6⟩ := h
  exact ⟨h0.tr hx, hx.blk b0, hx.blk b1, hx.blk b2, hx.blk b3, hx.blk b4, hx.blk b5, hx.blk b6⟩
theorem OvB.drewN (h : OvB w a b m n Q R wr) (q : Nat) : OvB w a b m n Q R (wr.drewN q) := h.ext exA
theorem OvB.rowR (h : OvB w a b m n Q R wr) (R' : Nat) : OvB w a b m n Q R' (wr.setRow (w.heap.size + 1 + 1 + 1 + 1 + 1) (arrA false (dg R'))) := by
  obtain ⟨h0, b0, b1, b2, b3, b4, b5, b6⟩ := h
  exact ⟨exA, bkA, bkA, bkA, bkA, bkA, b5.setRow_, bkA⟩
theorem set_arr (Z k x : Nat) (hk : k < 16) (hx : x < 65536) : (arrA false (dg Z)).setIfInBounds (1 + k) (.int .u64 (x : Int)) = arrA false (dg (setD Z k x)) := by
  rw [arr_set _ _ _ _ hk]
  exact (arr_ext fun j _ => dg_setD Z k x j hx).symm
theorem OvB.setR (h : OvB w a b m n Q R wr) (x : Nat) (hx : x < 65536) : OvB w a b m n Q (setD R 0 x) (wr.setCell ⟨w.heap.size + 1 + 1 + 1 + 1 + 1, 1, none⟩ (.int .u64 (x : Int))) := by
  obtain ⟨h0, b0, b1, b2, b3, b4, b5, b6⟩ := h
  refine ⟨exA, bkA, bkA, bkA, bkA, bkA, ?_, bkA⟩
  rw [← set_arr R 0 x (by decide) hx]
  exact BlkS b5
theorem OvB.setQ (h : OvB w a b m n Q R wr) (i x : Nat) (hi : i < 16) (hx : x < 65536) : OvB w a b m n (setD Q i x) R (wr.setCell ⟨w.heap.size + 1 + 1 + 1 + 1, 1 + i, none⟩ (.int .u64 (x : Int))) := by
  obtain ⟨h0, b0, b1, b2, b3, b4, b5, b6⟩ := h
  refine ⟨exA, bkA, bkA, bkA, bkA, ?_, bkA, bkA⟩
  rw [← set_arr Q i x hi hx]
  exact BlkS b4
end
def OverR (w : World) (a b : Bool) (m n : Nat) (i : Value) (wr : World) : Prop := ∃ k : Nat, k ≤ 256 ∧ i = .int .i64 ((k : Int) - 1) ∧ OvB w a b m n (ovQ m n k) (ovR m n k) wr
set_option maxRecDepth 10000 in
set_option maxHeartbeats 4000000 in
theorem over_any (a b : Bool) (m n : Nat) (w : World) (hm : m < 2 ^ 256) (hn : 0 < n) (hn2 : n ≤ 340282366920938463463374607431768211456) :
    Calls Tryz.prog 233 #[longV a m, longV b n] w fun e w' => e = .returned (.tuple #[longV (a != b) (m / n), longV false (m % n)]) ∧ Ext w w' := by
  have Hm := Lib.hid hm
  have Hn := Lib.hid hn
  have Hn2 := Lib.hid hn2
  clear hm hn hn2
  have z2 := arr_zero false
  have s0 := arr_set0 b false (dg n)
  have Z0 := Lib.hid (show arrA false (fun _ => 0) = arrA false (dg 0) from arr_ext fun j _ => by simp [dg])
  unfold longV
  go_enter Tryz.func233, Tryz.ntmps233
  obtain ⟨W3, HW3⟩ : ∃ W, Hid (W = ((((w.alloc (.cells (arrA a (dg m)) 314)).alloc (.cells (arrA b (dg n)) 314)).alloc (.cells (arrA false fun _ => 0) 314)).alloc (.cells (arrA false fun _ => 0) 314))) := ⟨_, rfl⟩
  have hsz : W3.heap.size = w.heap.size + 1 + 1 + 1 + 1 := by rw [HW3.out]; simp
  have B1 : Blk W3 (w.heap.size + 1) 314 (arrA b (dg n)) := by rw [HW3.out]; exact bkA
  have Hsz := Lib.hid hsz
  clear hsz
  go_upto_region 3 with (first
    | (with_reducible refine wpL_store_new rfl 314 (.tmp 6) (.tmp 10) rfl (w.heap.size + 1 + 1 + 1 + 1) 314 (arrA false fun _ => 0) (arrA false fun _ => 0) rfl rfl (by simp) (by rw [arr_size]) (arr_one _ _) 17 long_wide (arr_size _ _) ?_)
    | (with_reducible refine wpL_store_new rfl 314 (.tmp 7) (.tmp 11) rfl (w.heap.size + 1 + 1 + 1 + 1 + 1) 314 (arrA false fun _ => 0) (arrA false fun _ => 0) rfl rfl (by simp) (by rw [arr_size]) (arr_one _ _) 17 long_wide (arr_size _ _) ?_))
  rw [← HW3.out]
  have B1' := BlkA (o := .cells (arrA false fun _ => 0) 314) (BlkA (o := .cells (arrA false fun _ => 0) 314) B1)
  go_upto_region 5 with (first
    | (with_reducible refine wpL_load_row rfl 314 (.tmp 3) rfl _ 314 (arrA b (dg n)) 17 rfl B1' long_wide (arr_size _ _) ?_)
    | (with_reducible refine wpL_store_new rfl 314 (.tmp 8) (.tmp 12) rfl (W3.heap.size + 1 + 1) 314 (arrA false fun _ => 0) (arrA b (dg n)) rfl rfl (by simp) (by rw [arr_size, arr_size]) (arr_one _ _) 17 long_wide (arr_size _ _) ?_))
  rw [Hsz.out]
  obtain ⟨W7, HW7⟩ : ∃ W, Hid (W = ((W3.alloc (.cells (arrA false fun _ => 0) 314)).alloc (.cells (arrA false fun _ => 0) 314)).alloc (.cells (arrA false (dg n)) 314)) := ⟨_, rfl⟩
  have hB7 : OvB w a b m n (ovQ m n 256) (ovR m n 256) W7 := by
    rw [ovQ_top m n Hm.out, ovR_top m n Hm.out, HW7.out, HW3.out]
    refine ⟨exA, bkA, bkA, bkA, bkA, ?_, ?_, bkA⟩
    · rw [← Z0.out]; exact bkA
    · rw [← Z0.out]; exact bkA
  rw [← HW7.out]
  clear HW3 HW7 B1 B1' Hsz s0 z2
  go_wp2_with fail
  go_loopw [9] (fun i wr => OverR w a b m n i wr) (fun i _ => (intOf i + 1).toNat)
  case atStart => exact ⟨256, by omega, rfl, hB7⟩
  case round =>
    clear hB7
    obtain ⟨k, hk, rfl, hB⟩ := hrel
    have HB := Lib.hid hB
    by_cases hlt : 0 < k
    · obtain ⟨t, rfl⟩ : ∃ t, k = t + 1 := ⟨k - 1, by omega⟩
      rw [show ((t + 1 : Nat) : Int) - 1 = t by omega]
      obtain ⟨Q, HQ⟩ : ∃ Q, Hid (Q = ovQ m n (t + 1)) := ⟨_, rfl⟩
      obtain ⟨R, HR⟩ : ∃ R, Hid (R = ovR m n (t + 1)) := ⟨_, rfl⟩
      rw [← HQ.out, ← HR.out] at HB hB
      obtain ⟨h0, b0, b1, b2, b3, b4, b5, b6⟩ := hB
      go_upto_region 9 with (first
        | (with_reducible refine wpL_load_row rfl 314 (.tmp 7) rfl _ 314 (arrA false (dg R)) 17 rfl b5 long_wide (arr_size _ _) ?_)
        | (go_at_call 249; go_must (with_reducible refine (up_any false false R R _).mono ?_); rintro e w1 ⟨rfl, hx1⟩; have B5 := hx1.blk b5)
        | (with_reducible refine wpL_store_row rfl 314 (.tmp 7) (.tmp 20) rfl _ 314 (arrA false (dg R)) (arrA false (dg (R + R))) rfl rfl B5 (by rw [arr_size, arr_size]) (arr_one _ _) 17 long_wide (arr_size _ _) ?_))
      simp only [Act.put]
      obtain ⟨W9, HW9⟩ : ∃ W, Hid (W = w1.setRow (w.heap.size + 1 + 1 + 1 + 1 + 1) (arrA false (dg (R + R)))) := ⟨_, rfl⟩
      have HB9 := Lib.hid (show OvB w a b m n Q (R + R) W9 by rw [HW9.out]; exact (HB.out.ext hx1).rowR (R + R))
      rw [← HW9.out]
      clear HW9 hx1 B5 h0 b0 b1 b2 b3 b4 b5 b6 HB
      obtain ⟨h0, b0, b1, b2, b3, b4, b5, b6⟩ := HB9.out
      have ht16 : t / 16 < 16 := by omega
      obtain ⟨i, Hi⟩ : ∃ i, Hid (i = t / 16) := ⟨_, rfl⟩
      obtain ⟨s, Hs⟩ : ∃ s, Hid (s = t % 16) := ⟨_, rfl⟩
      rw [← Hi.out] at ht16
      have hs16 : s < 16 := by rw [Hs.out]; omega
      have c5 := (b5.cell (1 + 0)).trans (arr_get _ _ 0 (by decide))
      have f5 := b5.frozen (1 + 0)
      have c0 := (b0.cell (1 + i)).trans (arr_get _ _ i ht16)
      have e1 : (t : Int).tdiv 16 = (i : Int) := by rw [Hi.out, Int.tdiv_eq_ediv_of_nonneg (by omega)]; omega
      have e2 : (t : Int).tmod 16 = (s : Int) := by rw [Hs.out, Int.tmod_eq_emod_of_nonneg (by omega)]; omega
      have e3 : IntKind.i64.wrap (i : Int) = (i : Int) := by rw [IntKind.wrap_i64]; omega
      have e4 : IntKind.i64.wrap (s : Int) = (s : Int) := by rw [IntKind.wrap_i64]; omega
      have hdd := dg_lt (R + R) 0
      have hi16 : (i : Int) < 16 := by omega
      have hs16' : (0 : Int) ≤ (s : Int) := by omega
      have hbit := bit_dg m t
      rw [← Hi.out, ← Hs.out] at hbit
      have hev := even_set (R + R) (bitOf m t) (by omega) (bit_le m t)
      have Hev := Lib.hid hev
      have Hbit := Lib.hid hbit
      clear hev hbit
      go_cut [] (fun w' => OvB w a b m n Q (R + R + bitOf m t) w')
      case first =>
        go_region
        all_goals
          go_wp2_with fail
          go_meet
          case rel =>
            have e5 : IntKind.u64.wrap (((dg (R + R) 0 : Nat) : Int) + (((dg m i : Nat) : Int) / 2 ^ s).tmod 2) = ((dg (R + R) 0 + bitOf m t : Nat) : Int) := by
              have hb := bit_le m t
              have hb2 := Hbit.out
              rw [show (((dg m i : Nat) : Int) / 2 ^ s) = ((dg m i / 2 ^ s : Nat) : Int) by simp]
              generalize dg m i / 2 ^ s = y at *
              rw [Int.tmod_eq_emod_of_nonneg (by omega), IntKind.wrap_u64]
              omega
            rw [e5]
            have h := HB9.out.setR _ Hev.out.1
            rw [Hev.out.2] at h
            exact h.ext exA
      case rest =>
        have HB10 := Lib.hid hcut
        clear c5 f5 c0 h0 b0 b1 b2 b3 b4 b5 b6
        obtain ⟨h0, b0, b1, b2, b3, b4, b5, b6⟩ := HB10.out
        obtain ⟨R2, HR2⟩ : ∃ R2, Hid (R2 = R + R + bitOf m t) := ⟨_, rfl⟩
        rw [← HR2.out] at HB10 b5
        have hRn : R < n := by rw [HR.out]; exact ovR_lt m n _ Hn.out
        have hR2 : R2 < 65536 ^ 16 := by have := bit_le m t; have := HR2.out; have := Hn2.out; omega
        have hn16 : n < 65536 ^ 16 := by have := Hn2.out; omega
        have HR16 := Lib.hid hR2
        have Hn16 := Lib.hid hn16
        have hq1 := quot_next m n t Hn.out
        have hr1 := rest_next m n t Hn.out
        rw [← HR.out, ← HQ.out, show 2 * R + bitOf m t = R2 by rw [HR2.out]; omega] at hq1
        rw [← HR.out, show 2 * R + bitOf m t = R2 by rw [HR2.out]; omega] at hr1
        clear hR2 hn16 hcut
        by_cases hge : n ≤ R2
        · rw [if_pos hge] at hq1 hr1
          have Hq1 := Lib.hid hq1
          have Hr1 := Lib.hid hr1
          have Hge := Lib.hid hge
          have hc := cmpI_ge hge
          clear hq1 hr1
          go_upto_region 12 with (first
            | (go_at_call 250; go_must (with_reducible refine (cmp_any false false R2 n _ HR16.out Hn16.out).mono ?_); rintro e w2 ⟨rfl, hx2⟩; have D5 := hx2.blk b5; have D6 := hx2.blk b6)
            | (go_at_call 251; go_must (with_reducible refine (down_any false false R2 n _ Hge.out).mono ?_); rintro e w3 ⟨rfl, hx3⟩; have E5 := hx3.blk D5)
            | (with_reducible refine wpL_load_row rfl 314 (.tmp 7) rfl _ 314 (arrA false (dg R2)) 17 rfl b5 long_wide (arr_size _ _) ?_) | (with_reducible refine wpL_load_row rfl 314 (.tmp 8) rfl _ 314 (arrA false (dg n)) 17 rfl b6 long_wide (arr_size _ _) ?_) | (with_reducible refine wpL_load_row rfl 314 (.tmp 7) rfl _ 314 (arrA false (dg R2)) 17 rfl D5 long_wide (arr_size _ _) ?_) | (with_reducible refine wpL_load_row rfl 314 (.tmp 8) rfl _ 314 (arrA false (dg n)) 17 rfl D6 long_wide (arr_size _ _) ?_)
            | (with_reducible refine wpL_store_row rfl 314 (.tmp 7) (.tmp 42) rfl _ 314 (arrA false (dg R2)) (arrA false (dg (R2 - n))) rfl rfl E5 (by rw [arr_size, arr_size]) (arr_one _ _) 17 long_wide (arr_size _ _) ?_))
          simp only [Act.put]
          obtain ⟨W12, HW12⟩ : ∃ W, Hid (W = w3.setRow (w.heap.size + 1 + 1 + 1 + 1 + 1) (arrA false (dg (R2 - n)))) := ⟨_, rfl⟩
          have HB12 := Lib.hid (show OvB w a b m n Q (R2 - n) W12 by rw [HW12.out]; exact ((HB10.out.ext hx2).ext hx3).rowR (R2 - n))
          rw [← HW12.out]
          clear HW12 hx2 hx3 D5 D6 E5 h0 b0 b1 b2 b3 b4 b5 b6 hc hge
          obtain ⟨h0, b0, b1, b2, b3, b4, b5, b6⟩ := HB12.out
          have c4 := (b4.cell (1 + i)).trans (arr_get _ _ i ht16)
          have f4 := b4.frozen (1 + i)
          have hbs := bit_set (m / 2 ^ (t + 1) / n) t
          rw [show m / 2 ^ (t + 1) / n * 2 ^ (t + 1) = Q by rw [HQ.out]; rfl, ← Hi.out, ← Hs.out] at hbs
          have Hbs := Lib.hid hbs
          clear hbs
          go_region
          all_goals
            go_wp2_with fail
            go_roundw
            case rel =>
              refine ⟨t, by omega, by simp, ?_⟩
              rw [Hq1.out, Hr1.out]
              have e6 : IntKind.u64.wrap (((dg Q i : Nat) : Int) + IntKind.u64.wrap (2 ^ s)) = ((dg Q i + 2 ^ s : Nat) : Int) := by
                have hb := Hbs.out.1
                rw [show ((2 : Int) ^ s) = ((2 ^ s : Nat) : Int) by simp]
                generalize 2 ^ s = y at *
                rw [IntKind.wrap_u64, IntKind.wrap_u64]
                omega
              rw [e6]
              have h := HB12.out.setQ i _ ht16 Hbs.out.1
              rw [Hbs.out.2] at h
              exact h.ext exA
            case measure => simp [intOf]
        · rw [if_neg hge] at hq1 hr1
          have Hq1 := Lib.hid hq1
          have Hr1 := Lib.hid hr1
          have hc := cmpI_neg hge
          clear hq1 hr1
          go_wp2_with (first
            | (go_at_call 250; go_must (with_reducible refine (cmp_any false false R2 n _ HR16.out Hn16.out).mono ?_); rintro e w2 ⟨rfl, hx2⟩)
            | (with_reducible refine wpL_load_row rfl 314 (.tmp 7) rfl _ 314 (arrA false (dg R2)) 17 rfl b5 long_wide (arr_size _ _) ?_) | (with_reducible refine wpL_load_row rfl 314 (.tmp 8) rfl _ 314 (arrA false (dg n)) 17 rfl b6 long_wide (arr_size _ _) ?_))
          go_roundw
          case rel => exact ⟨t, by omega, by simp, by rw [Hq1.out, Hr1.out]; exact HB10.out.ext exA⟩
          case measure => simp [intOf]
    · have hk0 : k = 0 := by omega
      subst hk0
      rw [ovQ_end, ovR_end] at hB
      obtain ⟨h0, b0, b1, b2, b3, b4, b5, b6⟩ := hB
      have g0 := (b0.cell 0).trans (arr_get0 a (dg m))
      have g1 := (b1.cell 0).trans (arr_get0 b (dg n))
      have g4 := (b4.cell 0).trans (arr_get0 false (dg (m / n)))
      have f4 := b4.frozen 0
      have A4 := BlkS (i := 0) (u := .bool (!(a == b))) b4
      rw [arr_set0] at A4
      have A0 := ExtS (p := ⟨w.heap.size + 1 + 1 + 1 + 1, 0, none⟩) (v := .bool (!(a == b))) (by dsimp only; omega) h0
      have A2 := BlkF (p := ⟨w.heap.size + 1 + 1 + 1 + 1, 0, none⟩) (u := .bool (!(a == b))) (by dsimp only; omega) b2
      have A3 := BlkF (p := ⟨w.heap.size + 1 + 1 + 1 + 1, 0, none⟩) (u := .bool (!(a == b))) (by dsimp only; omega) b3
      have A5 := BlkF (p := ⟨w.heap.size + 1 + 1 + 1 + 1, 0, none⟩) (u := .bool (!(a == b))) (by dsimp only; omega) b5
      go_upto_region 14 with fail
      obtain ⟨W, HW⟩ : ∃ W, Hid (W = wr.setCell ⟨w.heap.size + 1 + 1 + 1 + 1, 0, none⟩ (.bool (!(a == b)))) := ⟨_, rfl⟩
      rw [← HW.out] at A4 A2 A3 A5 A0
      rw [← HW.out]
      clear g0 g1 g4 f4 h0 b0 b1 b2 b3 b4 b5 b6 HB HW
      refine wp_region_any (by kernel_rfl) ?_
      change wpAny _ _ _ _ _ _ _ (World.drew _)
      have B2 := BlkD A2
      have B3 := BlkD A3
      have B4 := BlkD A4
      have B5 := BlkD A5
      have B0 := ExtD A0
      have C3 := BlkR (g' := w.heap.size + 1 + 1) (ds := arrA (!(a == b)) (dg (m / n))) (by omega) B3
      have C5 := BlkR (g' := w.heap.size + 1 + 1) (ds := arrA (!(a == b)) (dg (m / n))) (by omega) B5
      refine wpAny_ready (rs := [0, 1]) (by kernel_rfl) (by simp) (AllReady.cons rfl (fun K hK => ?_) (AllReady.cons rfl (fun K hK => ?_) AllReady.nil))
      · refine step_load_row rfl (some 60) rfl 314 (.tmp 6) rfl _ 314 (arrA (!(a == b)) (dg (m / n))) 17 rfl B4 long_wide (arr_size _ _) (hK _ _ ?_)
        refine wpAny_ready (rs := [1, 2]) (by kernel_rfl) (by simp) (AllReady.cons rfl (fun K hK => ?_) (AllReady.cons rfl (fun K hK => ?_) AllReady.nil))
        · refine step_load_row rfl (some 61) rfl 314 (.tmp 7) rfl _ 314 (arrA false (dg (m % n))) 17 rfl B5 long_wide (arr_size _ _) (hK _ _ ?_)
          refine wpAny_ready (rs := [2]) (by kernel_rfl) (by simp) (AllReady.cons rfl (fun K hK => ?_) AllReady.nil)
          refine step_store_row rfl none rfl 314 (.tmp 4) (.tmp 60) rfl _ 314 (arrA false fun _ => 0) (arrA (!(a == b)) (dg (m / n))) rfl rfl B2 (by rw [arr_size, arr_size]) (arr_one _ _) 17 long_wide (arr_size _ _) (hK _ _ ?_)
          refine wpAny_ready (rs := [3]) (by kernel_rfl) (by simp) (AllReady.cons rfl (fun K hK => ?_) AllReady.nil)
          refine step_store_row rfl none rfl 314 (.tmp 5) (.tmp 61) rfl _ 314 (arrA false fun _ => 0) (arrA false (dg (m % n))) rfl rfl C3 (by rw [arr_size, arr_size]) (arr_one _ _) 17 long_wide (arr_size _ _) (hK _ _ ?_)
          refine wpAny_done (by kernel_rfl) ?_ _
          simp only [Act.put]
          go_wp2_with fail
          exact bodyPost_ret (v := .tuple #[.agg (arrA (!(a == b)) (dg (m / n))), .agg (arrA false (dg (m % n)))]) (res_row2 rfl _ _ _ _ _ _ _ 17 17 rfl rfl (BlkR (by omega) B2.setRow_) C3.setRow_ long_wide long_wide (arr_size _ _) (arr_size _ _)) rfl ⟨rfl, exA⟩
        · refine step_store_row rfl none rfl 314 (.tmp 4) (.tmp 60) rfl _ 314 (arrA false fun _ => 0) (arrA (!(a == b)) (dg (m / n))) rfl rfl B2 (by rw [arr_size, arr_size]) (arr_one _ _) 17 long_wide (arr_size _ _) (hK _ _ ?_)
          refine wpAny_ready (rs := [1]) (by kernel_rfl) (by simp) (AllReady.cons rfl (fun K hK => ?_) AllReady.nil)
          refine step_load_row rfl (some 61) rfl 314 (.tmp 7) rfl _ 314 (arrA false (dg (m % n))) 17 rfl C5 long_wide (arr_size _ _) (hK _ _ ?_)
          refine wpAny_ready (rs := [3]) (by kernel_rfl) (by simp) (AllReady.cons rfl (fun K hK => ?_) AllReady.nil)
          refine step_store_row rfl none rfl 314 (.tmp 5) (.tmp 61) rfl _ 314 (arrA false fun _ => 0) (arrA false (dg (m % n))) rfl rfl C3 (by rw [arr_size, arr_size]) (arr_one _ _) 17 long_wide (arr_size _ _) (hK _ _ ?_)
          refine wpAny_done (by kernel_rfl) ?_ _
          simp only [Act.put]
          go_wp2_with fail
          exact bodyPost_ret (v := .tuple #[.agg (arrA (!(a == b)) (dg (m / n))), .agg (arrA false (dg (m % n)))]) (res_row2 rfl _ _ _ _ _ _ _ 17 17 rfl rfl (BlkR (by omega) B2.setRow_) C3.setRow_ long_wide long_wide (arr_size _ _) (arr_size _ _)) rfl ⟨rfl, exA⟩
      · refine step_load_row rfl (some 61) rfl 314 (.tmp 7) rfl _ 314 (arrA false (dg (m % n))) 17 rfl B5 long_wide (arr_size _ _) (hK _ _ ?_)
        refine wpAny_ready (rs := [0]) (by kernel_rfl) (by simp) (AllReady.cons rfl (fun K hK => ?_) AllReady.nil)
        refine step_load_row rfl (some 60) rfl 314 (.tmp 6) rfl _ 314 (arrA (!(a == b)) (dg (m / n))) 17 rfl B4 long_wide (arr_size _ _) (hK _ _ ?_)
        refine wpAny_ready (rs := [2]) (by kernel_rfl) (by simp) (AllReady.cons rfl (fun K hK => ?_) AllReady.nil)
        refine step_store_row rfl none rfl 314 (.tmp 4) (.tmp 60) rfl _ 314 (arrA false fun _ => 0) (arrA (!(a == b)) (dg (m / n))) rfl rfl B2 (by rw [arr_size, arr_size]) (arr_one _ _) 17 long_wide (arr_size _ _) (hK _ _ ?_)
        refine wpAny_ready (rs := [3]) (by kernel_rfl) (by simp) (AllReady.cons rfl (fun K hK => ?_) AllReady.nil)
        refine step_store_row rfl none rfl 314 (.tmp 5) (.tmp 61) rfl _ 314 (arrA false fun _ => 0) (arrA false (dg (m % n))) rfl rfl C3 (by rw [arr_size, arr_size]) (arr_one _ _) 17 long_wide (arr_size _ _) (hK _ _ ?_)
        refine wpAny_done (by kernel_rfl) ?_ _
        simp only [Act.put]
        go_wp2_with fail
        exact bodyPost_ret (v := .tuple #[.agg (arrA (!(a == b)) (dg (m / n))), .agg (arrA false (dg (m % n)))]) (res_row2 rfl _ _ _ _ _ _ _ 17 17 rfl rfl (BlkR (by omega) B2.setRow_) C3.setRow_ long_wide long_wide (arr_size _ _) (arr_size _ _)) rfl ⟨rfl, exA⟩
end Go.Proofs.YtjajbbgebblalaaGreatDoor

namespace Go.Proofs.YtjajbbgebblalaaGreatDoor
open Go.RowKit
set_option linter.unusedVariables false
set_option linter.unusedSimpArgs false
theorem p256 (p : Nat) (h : p ≤ 85070591730234615865843651857942052864) : p < 2 ^ 256 := by omega
theorem q16 (p z : Nat) (h : p ≤ 85070591730234615865843651857942052864) : p / z < 65536 ^ 16 := Nat.lt_of_le_of_lt (Nat.div_le_self p z) (by omega)
theorem n128 (p : Nat) (h : p ≤ 9223372036854775808) : p ≤ 340282366920938463463374607431768211456 := by omega
set_option maxHeartbeats 2000000 in
theorem refmd_any (a b d : Int) (w : World) (ha0 : -9223372036854775808 ≤ a) (ha1 : a ≤ 9223372036854775807) (hb0 : -9223372036854775808 ≤ b) (hb1 : b ≤ 9223372036854775807) (hd0 : -9223372036854775808 ≤ d) (hd1 : d ≤ 9223372036854775807) :
    Calls Tryz.prog 208 #[.int .i64 a, .int .i64 b, .int .i64 d] w fun e w' => e = .returned (.tuple #[.int .i64 (mdV a b d), .bool (mdF a b d)]) ∧ Ext w w' := by
  by_cases hd : d = 0
  · subst hd
    have m1 : mdF a b 0 = false := rfl
    have m2 : mdV a b 0 = 0 := by unfold mdV; rw [m1]; rfl
    rw [m1, m2]
    go_enter Tryz.func208, Tryz.ntmps208
    go_wp2_with fail
    go_ret2
    exact ⟨rfl, exA⟩
  · have la := absN_lt a ha0 ha1
    have lb := absN_lt b hb0 hb1
    have ld := absN_lt d hd0 hd1
    have hz : 0 < absN d := by unfold absN; omega
    have tz : decide (d = 0) = false := by simpa using hd
    have tz2 : (d == 0) = false := by simpa using hd
    have A1 := Lib.hid (big8 (absN a) la)
    have A2 := Lib.hid (big8 (absN b) lb)
    have lp := prod_lt _ _ la lb
    have A3 := Lib.hid (p256 _ lp)
    have A4 := Lib.hid (q16 _ (absN d) lp)
    have A5 := Lib.hid (n128 _ ld)
    have A6 := Lib.hid hz
    have HV : Hid (mdQ a b d = sg ((decide (a < 0) != decide (b < 0)) != decide (d < 0)) (absN a * absN b / absN d)) := Lib.hid rfl
    have HF : Hid (mdF a b d = fits64 (mdQ a b d)) := Lib.hid (by unfold mdF; rw [if_neg hd])
    have HW : Hid (mdV a b d = nf (mdQ a b d)) := Lib.hid (by unfold mdV nf; rw [HF.out])
    clear la lb ld hz lp hd
    have z2 := arr_zero false
    go_enter Tryz.func208, Tryz.ntmps208
    go_wp2_with (first
      | (go_at_call 235; (with_reducible refine (of_any a _ ha0 ha1).mono ?_); rintro e w1 ⟨rfl, hx1⟩)
      | (go_at_call 235; (with_reducible refine (of_any b _ hb0 hb1).mono ?_); rintro e w2 ⟨rfl, hx2⟩)
      | (go_at_call 235; go_must (with_reducible refine (of_any d _ hd0 hd1).mono ?_); rintro e w4 ⟨rfl, hx4⟩)
      | (go_at_call 234; go_must (with_reducible refine (times_any _ _ _ _ _ A1.out A2.out).mono ?_); rintro e w3 ⟨rfl, hx3⟩)
      | (go_at_call 233; go_must (with_reducible refine (over_any _ _ _ _ _ A3.out A6.out A5.out).mono ?_); rintro e w5 ⟨rfl, hx5⟩)
      | (with_reducible refine wpL_store_row rfl 314 (.tmp 8) (.tmp 21) rfl _ 314 (arrA false fun _ => 0) (arrA (decide (a < 0) != (decide (b < 0) != decide (d < 0))) (dg (absN a * absN b / absN d))) rfl rfl (BlkA (BlkN (by simp))) (by rw [arr_size, arr_size]) (arr_one _ _) 17 long_wide (arr_size _ _) ?_)
      | (with_reducible refine wpL_store_row rfl 314 (.tmp 9) (.tmp 22) rfl _ 314 (arrA false fun _ => 0) (arrA false (dg (absN a * absN b % absN d))) rfl rfl (BlkR (by omega) (BlkN (by simp))) (by rw [arr_size, arr_size]) (arr_one _ _) 17 long_wide (arr_size _ _) ?_)
      | (with_reducible refine wpL_load_row rfl 314 (.tmp 8) rfl _ 314 (arrA (decide (a < 0) != (decide (b < 0) != decide (d < 0))) (dg (absN a * absN b / absN d))) 17 rfl (BlkR (by omega) (BlkA (BlkN (by simp))).setRow_) long_wide (arr_size _ _) ?_)
      | (go_at_call 236; go_must (with_reducible refine (fits_any _ _ _ A4.out).mono ?_); rintro e w6 ⟨rfl, hx6⟩))
    go_ret2
    have hv := HV.out
    rw [show ((decide (a < 0) != decide (b < 0)) != decide (d < 0)) = (decide (a < 0) != (decide (b < 0) != decide (d < 0))) by simp] at hv
    have h5 := ((((hx1.tr hx2).tr hx3).tr hx4).tr hx5)
    have q5 := h5.size
    exact ⟨ret_ib (by rw [HW.out, hv]) (by rw [HF.out, hv]), Ext.tr (ExtR (by omega) (ExtR (by omega) (ExtA (ExtA h5)))) hx6⟩
end Go.Proofs.YtjajbbgebblalaaGreatDoor
