/-
  The walk of the long numbers' up.
-/
/-
  The walks of the long numbers' down.
-/
/-
  The walks of the long numbers' Cmp and Of.
-/
/-
  The walks of the long numbers' Plus and Fits.
-/
/-
  The walk of the long numbers' Fits.
-/
import Derived.Test.YtjomgppbialeoaaGreatProg
import Derived.Test.YtjomgppbialeoaaGreatLongP
namespace Go.Proofs.YtjomgppbialeoaaGreat
open Go.RowKit
set_option linter.unusedVariables false
set_option linter.unusedSimpArgs false
theorem dgI_bd (n i : Nat) : (0 : Int) ≤ (dg n i : Int) ∧ (dg n i : Int) < 65536 := by have := dg_lt n i; omega
def UpR (w : World) (a b : Bool) (m n : Nat) (c i : Value) (wr : World) : Prop :=
  ∃ k : Nat, k ≤ 16 ∧ i = .int .i64 k ∧ c = .int .u64 (carry m n k : Nat) ∧ Ext w wr ∧ Blk wr w.heap.size 64 (arrA a (dg m)) ∧ Blk wr (w.heap.size + 1) 64 (arrA b (dg n)) ∧
    Blk wr (w.heap.size + 1 + 1) 64 (arrA false (fun _ => 0)) ∧ Blk wr (w.heap.size + 1 + 1 + 1) 64 (arrA a (upto (m + n) k))
theorem long_wide : Wide Tryz.prog 64 17 := ⟨⟨_, Tryz.underlying64, rfl⟩, by kernel_rfl⟩
set_option maxHeartbeats 1000000 in
theorem up_any (a b : Bool) (m n : Nat) (w : World) :
    Calls Tryz.prog 62 #[longV a m, longV b n] w fun e w' => e = .returned (longV a (m + n)) ∧ Ext w w' := by
  have g0 := arr_get0 a (dg m)
  have z2 := arr_zero false
  have s0 := arr_set0 false a (fun _ => 0)
  unfold longV
  go_enter Tryz.func62, Tryz.ntmps62
  go_wp2_with (with_reducible refine wpL_store_new rfl 64 (.tmp 5) (.tmp 11) rfl (w.heap.size + 1 + 1 + 1) 64 (arrA false fun _ => 0) (arrA a fun _ => 0) rfl rfl (by simp) (by rw [arr_size, arr_size]) (arr_one _ _) 17 long_wide (arr_size _ _) ?_)
  go_loopw [6, 7] (fun c i wr => UpR w a b m n c i wr) (fun _ i _ => 16 - (intOf i).toNat)
  case atStart => exact ⟨0, by omega, rfl, by rw [carry_zero]; rfl, (by repeat (first | with_reducible exact Below.refl _ _ | with_reducible assumption | with_reducible refine ExtD ?_ | with_reducible refine ExtDN ?_ | with_reducible refine ExtA ?_ | (with_reducible refine ExtR ?_ ?_; (first | omega | (dsimp only; omega) | (simp; done) | (simp; omega))) | (with_reducible refine ExtS ?_ ?_; (first | omega | (dsimp only; omega) | (simp; done) | (simp; omega))) | with_reducible refine Ext.tr ?_ (by with_reducible assumption))), (by repeat (first | with_reducible assumption | (with_reducible refine BlkN ?_; (first | rfl | (first | omega | (dsimp only; omega) | (simp; done) | (simp; omega)))) | with_reducible refine BlkD ?_ | with_reducible refine BlkDN ?_ | with_reducible refine BlkA ?_ | with_reducible refine BlkE ?_ (by with_reducible assumption) | with_reducible refine BlkS ?_ | (with_reducible refine BlkF ?_ ?_; (first | omega | (dsimp only; omega) | (simp; done) | (simp; omega))) | (with_reducible refine BlkR ?_ ?_; (first | omega | (dsimp only; omega) | (simp; done) | (simp; omega))))), (by repeat (first | with_reducible assumption | (with_reducible refine BlkN ?_; (first | rfl | (first | omega | (dsimp only; omega) | (simp; done) | (simp; omega)))) | with_reducible refine BlkD ?_ | with_reducible refine BlkDN ?_ | with_reducible refine BlkA ?_ | with_reducible refine BlkE ?_ (by with_reducible assumption) | with_reducible refine BlkS ?_ | (with_reducible refine BlkF ?_ ?_; (first | omega | (dsimp only; omega) | (simp; done) | (simp; omega))) | (with_reducible refine BlkR ?_ ?_; (first | omega | (dsimp only; omega) | (simp; done) | (simp; omega))))), (by repeat (first | with_reducible assumption | (with_reducible refine BlkN ?_; (first | rfl | (first | omega | (dsimp only; omega) | (simp; done) | (simp; omega)))) | with_reducible refine BlkD ?_ | with_reducible refine BlkDN ?_ | with_reducible refine BlkA ?_ | with_reducible refine BlkE ?_ (by with_reducible assumption) | with_reducible refine BlkS ?_ | (with_reducible refine BlkF ?_ ?_; (first | omega | (dsimp only; omega) | (simp; done) | (simp; omega))) | (with_reducible refine BlkR ?_ ?_; (first | omega | (dsimp only; omega) | (simp; done) | (simp; omega))))), by rw [← upto_zero]; exact (by repeat (first | with_reducible assumption | (with_reducible refine BlkN ?_; (first | rfl | (first | omega | (dsimp only; omega) | (simp; done) | (simp; omega)))) | with_reducible refine BlkD ?_ | with_reducible refine BlkDN ?_ | with_reducible refine BlkA ?_ | with_reducible refine BlkE ?_ (by with_reducible assumption) | with_reducible refine BlkS ?_ | (with_reducible refine BlkF ?_ ?_; (first | omega | (dsimp only; omega) | (simp; done) | (simp; omega))) | (with_reducible refine BlkR ?_ ?_; (first | omega | (dsimp only; omega) | (simp; done) | (simp; omega)))))⟩
  case round =>
    obtain ⟨k, hk, rfl, rfl, hx, b0, b1, b2, b3⟩ := hrel
    by_cases hlt : k < 16
    · have c0 := (b0.cell (1 + k)).trans (arr_get _ _ k hlt)
      have c1 := (b1.cell (1 + k)).trans (arr_get _ _ k hlt)
      have c3 := (b3.cell (1 + k)).trans (arr_get _ _ k hlt)
      have f3 := b3.frozen (1 + k)
      have d0 := dgI_bd m k
      have d1 := dgI_bd n k
      have d2 := carry_le m n k
      have w1 : IntKind.u64.wrap ((dg m k : Int) + (dg n k : Int)) = (dg m k : Int) + (dg n k : Int) := by rw [IntKind.wrap_u64]; omega
      have w2 : IntKind.u64.wrap ((dg m k : Int) + (dg n k : Int) + (carry m n k : Nat)) = (dg m k : Int) + (dg n k : Int) + (carry m n k : Nat) := by rw [IntKind.wrap_u64]; omega
      go_wp2_with fail
      go_quiet (fail)
      clear w1 w2
      have e3 : ((dg m k : Int) + (dg n k : Int) + (carry m n k : Nat)) % 65536 = ((dg (m + n) k : Nat) : Int) := by rw [dg_add]; omega
      go_wp2_with fail
      go_roundw
      case rel => exact ⟨k + 1, by omega, by go_num, by rw [carry_next]; simp, (by repeat (first | with_reducible exact Below.refl _ _ | with_reducible assumption | with_reducible refine ExtD ?_ | with_reducible refine ExtDN ?_ | with_reducible refine ExtA ?_ | (with_reducible refine ExtR ?_ ?_; (first | omega | (dsimp only; omega) | (simp; done) | (simp; omega))) | (with_reducible refine ExtS ?_ ?_; (first | omega | (dsimp only; omega) | (simp; done) | (simp; omega))) | with_reducible refine Ext.tr ?_ (by with_reducible assumption))), (by repeat (first | with_reducible assumption | (with_reducible refine BlkN ?_; (first | rfl | (first | omega | (dsimp only; omega) | (simp; done) | (simp; omega)))) | with_reducible refine BlkD ?_ | with_reducible refine BlkDN ?_ | with_reducible refine BlkA ?_ | with_reducible refine BlkE ?_ (by with_reducible assumption) | with_reducible refine BlkS ?_ | (with_reducible refine BlkF ?_ ?_; (first | omega | (dsimp only; omega) | (simp; done) | (simp; omega))) | (with_reducible refine BlkR ?_ ?_; (first | omega | (dsimp only; omega) | (simp; done) | (simp; omega))))), (by repeat (first | with_reducible assumption | (with_reducible refine BlkN ?_; (first | rfl | (first | omega | (dsimp only; omega) | (simp; done) | (simp; omega)))) | with_reducible refine BlkD ?_ | with_reducible refine BlkDN ?_ | with_reducible refine BlkA ?_ | with_reducible refine BlkE ?_ (by with_reducible assumption) | with_reducible refine BlkS ?_ | (with_reducible refine BlkF ?_ ?_; (first | omega | (dsimp only; omega) | (simp; done) | (simp; omega))) | (with_reducible refine BlkR ?_ ?_; (first | omega | (dsimp only; omega) | (simp; done) | (simp; omega))))), (by repeat (first | with_reducible assumption | (with_reducible refine BlkN ?_; (first | rfl | (first | omega | (dsimp only; omega) | (simp; done) | (simp; omega)))) | with_reducible refine BlkD ?_ | with_reducible refine BlkDN ?_ | with_reducible refine BlkA ?_ | with_reducible refine BlkE ?_ (by with_reducible assumption) | with_reducible refine BlkS ?_ | (with_reducible refine BlkF ?_ ?_; (first | omega | (dsimp only; omega) | (simp; done) | (simp; omega))) | (with_reducible refine BlkR ?_ ?_; (first | omega | (dsimp only; omega) | (simp; done) | (simp; omega))))), by rw [← upto_next, ← arr_set _ _ _ _ hlt]; exact (by repeat (first | with_reducible assumption | (with_reducible refine BlkN ?_; (first | rfl | (first | omega | (dsimp only; omega) | (simp; done) | (simp; omega)))) | with_reducible refine BlkD ?_ | with_reducible refine BlkDN ?_ | with_reducible refine BlkA ?_ | with_reducible refine BlkE ?_ (by with_reducible assumption) | with_reducible refine BlkS ?_ | (with_reducible refine BlkF ?_ ?_; (first | omega | (dsimp only; omega) | (simp; done) | (simp; omega))) | (with_reducible refine BlkR ?_ ?_; (first | omega | (dsimp only; omega) | (simp; done) | (simp; omega)))))⟩
      case measure => simp [intOf]; omega
    · have hk16 : k = 16 := by omega
      subst hk16
      rw [upto_all] at b3
      go_wp2_with (first
        | with_reducible refine wpL_load_row rfl 64 (.tmp 5) rfl _ 64 (arrA a (dg (m + n))) 17 rfl b3 long_wide (arr_size _ _) ?_
        | with_reducible refine wpL_store_row rfl 64 (.tmp 4) (.tmp 34) rfl _ 64 (arrA false fun _ => 0) (arrA a (dg (m + n))) rfl rfl b2 (by rw [arr_size, arr_size]) (arr_one _ _) 17 long_wide (arr_size _ _) ?_)
      exact bodyPost_ret (v := .agg (arrA a (dg (m + n)))) (res_row rfl _ _ _ 64 _ 17 rfl b2.setRow_ long_wide (arr_size _ _)) rfl ⟨rfl, (by repeat (first | with_reducible exact Below.refl _ _ | with_reducible assumption | with_reducible refine ExtD ?_ | with_reducible refine ExtDN ?_ | with_reducible refine ExtA ?_ | (with_reducible refine ExtR ?_ ?_; (first | omega | (dsimp only; omega) | (simp; done) | (simp; omega))) | (with_reducible refine ExtS ?_ ?_; (first | omega | (dsimp only; omega) | (simp; done) | (simp; omega))) | with_reducible refine Ext.tr ?_ (by with_reducible assumption)))⟩
end Go.Proofs.YtjomgppbialeoaaGreat

namespace Go.Proofs.YtjomgppbialeoaaGreat
open Go.RowKit
set_option linter.unusedVariables false
set_option linter.unusedSimpArgs false
def DownR (w : World) (a b : Bool) (m n : Nat) (c i : Value) (wr : World) : Prop :=
  ∃ k : Nat, k ≤ 16 ∧ i = .int .i64 k ∧ c = .int .u64 (borrow m n k : Nat) ∧ Ext w wr ∧ Blk wr w.heap.size 64 (arrA a (dg m)) ∧ Blk wr (w.heap.size + 1) 64 (arrA b (dg n)) ∧
    Blk wr (w.heap.size + 1 + 1) 64 (arrA false (fun _ => 0)) ∧ Blk wr (w.heap.size + 1 + 1 + 1) 64 (arrA a (upto (m - n) k))
set_option maxHeartbeats 1000000 in
theorem down_any (a b : Bool) (m n : Nat) (w : World) (hnm : n ≤ m) :
    Calls Tryz.prog 63 #[longV a m, longV b n] w fun e w' => e = .returned (longV a (m - n)) ∧ Ext w w' := by
  have g0 := arr_get0 a (dg m)
  have z2 := arr_zero false
  have s0 := arr_set0 false a (fun _ => 0)
  unfold longV
  go_enter Tryz.func63, Tryz.ntmps63
  go_wp2_with (with_reducible refine wpL_store_new rfl 64 (.tmp 5) (.tmp 11) rfl (w.heap.size + 1 + 1 + 1) 64 (arrA false fun _ => 0) (arrA a fun _ => 0) rfl rfl (by simp) (by rw [arr_size, arr_size]) (arr_one _ _) 17 long_wide (arr_size _ _) ?_)
  go_loopw [6, 7] (fun c i wr => DownR w a b m n c i wr) (fun _ i _ => 16 - (intOf i).toNat)
  case atStart => exact ⟨0, by omega, rfl, by rw [borrow_zero]; rfl, (by repeat (first | with_reducible exact Below.refl _ _ | with_reducible assumption | with_reducible refine ExtD ?_ | with_reducible refine ExtDN ?_ | with_reducible refine ExtA ?_ | (with_reducible refine ExtR ?_ ?_; (first | omega | (dsimp only; omega) | (simp; done) | (simp; omega))) | (with_reducible refine ExtS ?_ ?_; (first | omega | (dsimp only; omega) | (simp; done) | (simp; omega))) | with_reducible refine Ext.tr ?_ (by with_reducible assumption))), (by repeat (first | with_reducible assumption | (with_reducible refine BlkN ?_; (first | rfl | (first | omega | (dsimp only; omega) | (simp; done) | (simp; omega)))) | with_reducible refine BlkD ?_ | with_reducible refine BlkDN ?_ | with_reducible refine BlkA ?_ | with_reducible refine BlkE ?_ (by with_reducible assumption) | with_reducible refine BlkS ?_ | (with_reducible refine BlkF ?_ ?_; (first | omega | (dsimp only; omega) | (simp; done) | (simp; omega))) | (with_reducible refine BlkR ?_ ?_; (first | omega | (dsimp only; omega) | (simp; done) | (simp; omega))))), (by repeat (first | with_reducible assumption | (with_reducible refine BlkN ?_; (first | rfl | (first | omega | (dsimp only; omega) | (simp; done) | (simp; omega)))) | with_reducible refine BlkD ?_ | with_reducible refine BlkDN ?_ | with_reducible refine BlkA ?_ | with_reducible refine BlkE ?_ (by with_reducible assumption) | with_reducible refine BlkS ?_ | (with_reducible refine BlkF ?_ ?_; (first | omega | (dsimp only; omega) | (simp; done) | (simp; omega))) | (with_reducible refine BlkR ?_ ?_; (first | omega | (dsimp only; omega) | (simp; done) | (simp; omega))))), (by repeat (first | with_reducible assumption | (with_reducible refine BlkN ?_; (first | rfl | (first | omega | (dsimp only; omega) | (simp; done) | (simp; omega)))) | with_reducible refine BlkD ?_ | with_reducible refine BlkDN ?_ | with_reducible refine BlkA ?_ | with_reducible refine BlkE ?_ (by with_reducible assumption) | with_reducible refine BlkS ?_ | (with_reducible refine BlkF ?_ ?_; (first | omega | (dsimp only; omega) | (simp; done) | (simp; omega))) | (with_reducible refine BlkR ?_ ?_; (first | omega | (dsimp only; omega) | (simp; done) | (simp; omega))))), by rw [← upto_zero]; exact (by repeat (first | with_reducible assumption | (with_reducible refine BlkN ?_; (first | rfl | (first | omega | (dsimp only; omega) | (simp; done) | (simp; omega)))) | with_reducible refine BlkD ?_ | with_reducible refine BlkDN ?_ | with_reducible refine BlkA ?_ | with_reducible refine BlkE ?_ (by with_reducible assumption) | with_reducible refine BlkS ?_ | (with_reducible refine BlkF ?_ ?_; (first | omega | (dsimp only; omega) | (simp; done) | (simp; omega))) | (with_reducible refine BlkR ?_ ?_; (first | omega | (dsimp only; omega) | (simp; done) | (simp; omega)))))⟩
  case round =>
    obtain ⟨k, hk, rfl, rfl, hx, b0, b1, b2, b3⟩ := hrel
    by_cases hlt : k < 16
    · have c0 := (b0.cell (1 + k)).trans (arr_get _ _ k hlt)
      have c1 := (b1.cell (1 + k)).trans (arr_get _ _ k hlt)
      have c3 := (b3.cell (1 + k)).trans (arr_get _ _ k hlt)
      have f3 := b3.frozen (1 + k)
      have d0 := dgI_bd m k
      have d1 := dgI_bd n k
      have d2 := borrow_le m n k
      have w1 : IntKind.u64.wrap ((dg m k : Int) + 65536) = (dg m k : Int) + 65536 := by rw [IntKind.wrap_u64]; omega
      have w2 : IntKind.u64.wrap ((dg m k : Int) + 65536 - (dg n k : Int)) = (dg m k : Int) + 65536 - (dg n k : Int) := by rw [IntKind.wrap_u64]; omega
      have w3 : IntKind.u64.wrap ((dg m k : Int) + 65536 - (dg n k : Int) - (borrow m n k : Nat)) = (dg m k : Int) + 65536 - (dg n k : Int) - (borrow m n k : Nat) := by rw [IntKind.wrap_u64]; omega
      go_wp2_with fail
      go_quiet (fail)
      clear w1 w2 w3
      have e3 : ((dg m k : Int) + 65536 - (dg n k : Int) - (borrow m n k : Nat)) % 65536 = ((dg (m - n) k : Nat) : Int) := by rw [dg_sub m n k hnm]; omega
      have B3 := Lib.hid (borrow_next m n k)
      go_wp2_with fail
      go_roundw
      case rel => exact ⟨k + 1, by omega, by go_num, by rw [B3.out]; go_num, (by repeat (first | with_reducible exact Below.refl _ _ | with_reducible assumption | with_reducible refine ExtD ?_ | with_reducible refine ExtDN ?_ | with_reducible refine ExtA ?_ | (with_reducible refine ExtR ?_ ?_; (first | omega | (dsimp only; omega) | (simp; done) | (simp; omega))) | (with_reducible refine ExtS ?_ ?_; (first | omega | (dsimp only; omega) | (simp; done) | (simp; omega))) | with_reducible refine Ext.tr ?_ (by with_reducible assumption))), (by repeat (first | with_reducible assumption | (with_reducible refine BlkN ?_; (first | rfl | (first | omega | (dsimp only; omega) | (simp; done) | (simp; omega)))) | with_reducible refine BlkD ?_ | with_reducible refine BlkDN ?_ | with_reducible refine BlkA ?_ | with_reducible refine BlkE ?_ (by with_reducible assumption) | with_reducible refine BlkS ?_ | (with_reducible refine BlkF ?_ ?_; (first | omega | (dsimp only; omega) | (simp; done) | (simp; omega))) | (with_reducible refine BlkR ?_ ?_; (first | omega | (dsimp only; omega) | (simp; done) | (simp; omega))))), (by repeat (first | with_reducible assumption | (with_reducible refine BlkN ?_; (first | rfl | (first | omega | (dsimp only; omega) | (simp; done) | (simp; omega)))) | with_reducible refine BlkD ?_ | with_reducible refine BlkDN ?_ | with_reducible refine BlkA ?_ | with_reducible refine BlkE ?_ (by with_reducible assumption) | with_reducible refine BlkS ?_ | (with_reducible refine BlkF ?_ ?_; (first | omega | (dsimp only; omega) | (simp; done) | (simp; omega))) | (with_reducible refine BlkR ?_ ?_; (first | omega | (dsimp only; omega) | (simp; done) | (simp; omega))))), (by repeat (first | with_reducible assumption | (with_reducible refine BlkN ?_; (first | rfl | (first | omega | (dsimp only; omega) | (simp; done) | (simp; omega)))) | with_reducible refine BlkD ?_ | with_reducible refine BlkDN ?_ | with_reducible refine BlkA ?_ | with_reducible refine BlkE ?_ (by with_reducible assumption) | with_reducible refine BlkS ?_ | (with_reducible refine BlkF ?_ ?_; (first | omega | (dsimp only; omega) | (simp; done) | (simp; omega))) | (with_reducible refine BlkR ?_ ?_; (first | omega | (dsimp only; omega) | (simp; done) | (simp; omega))))), by rw [← upto_next, ← arr_set _ _ _ _ hlt]; exact (by repeat (first | with_reducible assumption | (with_reducible refine BlkN ?_; (first | rfl | (first | omega | (dsimp only; omega) | (simp; done) | (simp; omega)))) | with_reducible refine BlkD ?_ | with_reducible refine BlkDN ?_ | with_reducible refine BlkA ?_ | with_reducible refine BlkE ?_ (by with_reducible assumption) | with_reducible refine BlkS ?_ | (with_reducible refine BlkF ?_ ?_; (first | omega | (dsimp only; omega) | (simp; done) | (simp; omega))) | (with_reducible refine BlkR ?_ ?_; (first | omega | (dsimp only; omega) | (simp; done) | (simp; omega)))))⟩
      case measure => simp [intOf]; omega
    · have hk16 : k = 16 := by omega
      subst hk16
      rw [upto_all] at b3
      go_wp2_with (first
        | with_reducible refine wpL_load_row rfl 64 (.tmp 5) rfl _ 64 (arrA a (dg (m - n))) 17 rfl b3 long_wide (arr_size _ _) ?_
        | with_reducible refine wpL_store_row rfl 64 (.tmp 4) (.tmp 36) rfl _ 64 (arrA false fun _ => 0) (arrA a (dg (m - n))) rfl rfl b2 (by rw [arr_size, arr_size]) (arr_one _ _) 17 long_wide (arr_size _ _) ?_)
      exact bodyPost_ret (v := .agg (arrA a (dg (m - n)))) (res_row rfl _ _ _ 64 _ 17 rfl b2.setRow_ long_wide (arr_size _ _)) rfl ⟨rfl, (by repeat (first | with_reducible exact Below.refl _ _ | with_reducible assumption | with_reducible refine ExtD ?_ | with_reducible refine ExtDN ?_ | with_reducible refine ExtA ?_ | (with_reducible refine ExtR ?_ ?_; (first | omega | (dsimp only; omega) | (simp; done) | (simp; omega))) | (with_reducible refine ExtS ?_ ?_; (first | omega | (dsimp only; omega) | (simp; done) | (simp; omega))) | with_reducible refine Ext.tr ?_ (by with_reducible assumption)))⟩
end Go.Proofs.YtjomgppbialeoaaGreat

namespace Go.Proofs.YtjomgppbialeoaaGreat
open Go.RowKit
set_option linter.unusedVariables false
set_option linter.unusedSimpArgs false
def cmpI (m n : Nat) : Int := if m < n then -1 else if n < m then 1 else 0
theorem cmpI_lt {m n : Nat} (h : m < n) : cmpI m n = -1 := by simp [cmpI, h]
theorem cmpI_gt {m n : Nat} (h : n < m) : cmpI m n = 1 := by simp [cmpI, h, Nat.lt_asymm h]
theorem cmpI_eq {m n : Nat} (h : m = n) : cmpI m n = 0 := by subst h; simp [cmpI]
theorem ret_int {k : IntKind} {a b : Int} (h : a = b) : Ending.returned (.int k a) = .returned (.int k b) := by rw [h]
def CmpR (w : World) (a b : Bool) (m n : Nat) (i : Value) (wr : World) : Prop :=
  ∃ k : Nat, k ≤ 16 ∧ i = .int .i64 ((k : Int) - 1) ∧ Ext w wr ∧ Blk wr w.heap.size 64 (arrA a (dg m)) ∧ Blk wr (w.heap.size + 1) 64 (arrA b (dg n)) ∧ m / 65536 ^ k = n / 65536 ^ k
set_option maxHeartbeats 1000000 in
theorem cmp_any (a b : Bool) (m n : Nat) (w : World) (hm : m < 65536 ^ 16) (hn : n < 65536 ^ 16) :
    Calls Tryz.prog 37 #[longV a m, longV b n] w fun e w' => e = .returned (.int .i64 (cmpI m n)) ∧ Ext w w' := by
  have h16 : m / 65536 ^ 16 = n / 65536 ^ 16 := by rw [Nat.div_eq_of_lt hm, Nat.div_eq_of_lt hn]
  have H16 := Lib.hid h16
  clear hm hn h16
  unfold longV
  go_enter Tryz.func37, Tryz.ntmps37
  go_wp2_with fail
  go_loopw [5] (fun i wr => CmpR w a b m n i wr) (fun i _ => (intOf i + 1).toNat)
  case atStart => exact ⟨16, by omega, rfl, (by repeat (first | with_reducible exact Below.refl _ _ | with_reducible assumption | with_reducible refine ExtD ?_ | with_reducible refine ExtDN ?_ | with_reducible refine ExtA ?_ | (with_reducible refine ExtR ?_ ?_; (first | omega | (dsimp only; omega) | (simp; done) | (simp; omega))) | (with_reducible refine ExtS ?_ ?_; (first | omega | (dsimp only; omega) | (simp; done) | (simp; omega))) | with_reducible refine Ext.tr ?_ (by with_reducible assumption))), (by repeat (first | with_reducible assumption | (with_reducible refine BlkN ?_; (first | rfl | (first | omega | (dsimp only; omega) | (simp; done) | (simp; omega)))) | with_reducible refine BlkD ?_ | with_reducible refine BlkDN ?_ | with_reducible refine BlkA ?_ | with_reducible refine BlkE ?_ (by with_reducible assumption) | with_reducible refine BlkS ?_ | (with_reducible refine BlkF ?_ ?_; (first | omega | (dsimp only; omega) | (simp; done) | (simp; omega))) | (with_reducible refine BlkR ?_ ?_; (first | omega | (dsimp only; omega) | (simp; done) | (simp; omega))))), (by repeat (first | with_reducible assumption | (with_reducible refine BlkN ?_; (first | rfl | (first | omega | (dsimp only; omega) | (simp; done) | (simp; omega)))) | with_reducible refine BlkD ?_ | with_reducible refine BlkDN ?_ | with_reducible refine BlkA ?_ | with_reducible refine BlkE ?_ (by with_reducible assumption) | with_reducible refine BlkS ?_ | (with_reducible refine BlkF ?_ ?_; (first | omega | (dsimp only; omega) | (simp; done) | (simp; omega))) | (with_reducible refine BlkR ?_ ?_; (first | omega | (dsimp only; omega) | (simp; done) | (simp; omega))))), H16.out⟩
  case round =>
    obtain ⟨k, hk, rfl, hx, b0, b1, heq⟩ := hrel
    have Heq := Lib.hid heq
    clear heq
    by_cases hlt : 0 < k
    · obtain ⟨k, rfl⟩ : ∃ j, k = j + 1 := ⟨k - 1, by omega⟩
      have e1 : ((k + 1 : Nat) : Int) - 1 = k := by omega
      rw [e1]
      have c0 := (b0.cell (1 + k)).trans (arr_get _ _ k (by omega))
      have c1 := (b1.cell (1 + k)).trans (arr_get _ _ k (by omega))
      obtain ⟨p1, p2, p3⟩ := cmp_at m n k Heq.out
      have P1 := Lib.hid p1
      have P2 := Lib.hid p2
      have P3 := Lib.hid p3
      clear p1 p2 p3 e1 Heq
      rcases Nat.lt_trichotomy (dg m k) (dg n k) with h | h | h
      · go_wp2_with fail
        go_quiet (fail)
        go_wp2_with fail
        go_ret
        exact ⟨ret_int (cmpI_lt (P1.out h)).symm, (by repeat (first | with_reducible exact Below.refl _ _ | with_reducible assumption | with_reducible refine ExtD ?_ | with_reducible refine ExtDN ?_ | with_reducible refine ExtA ?_ | (with_reducible refine ExtR ?_ ?_; (first | omega | (dsimp only; omega) | (simp; done) | (simp; omega))) | (with_reducible refine ExtS ?_ ?_; (first | omega | (dsimp only; omega) | (simp; done) | (simp; omega))) | with_reducible refine Ext.tr ?_ (by with_reducible assumption)))⟩
      · have h1 : ¬ dg m k < dg n k := by omega
        have h2 : ¬ dg n k < dg m k := by omega
        have H := Lib.hid h
        clear h
        go_wp2_with fail
        go_quiet (fail)
        go_wp2_with fail
        go_quiet (fail)
        go_wp2_with fail
        go_roundw
        case rel => exact ⟨k, by omega, by simp, (by repeat (first | with_reducible exact Below.refl _ _ | with_reducible assumption | with_reducible refine ExtD ?_ | with_reducible refine ExtDN ?_ | with_reducible refine ExtA ?_ | (with_reducible refine ExtR ?_ ?_; (first | omega | (dsimp only; omega) | (simp; done) | (simp; omega))) | (with_reducible refine ExtS ?_ ?_; (first | omega | (dsimp only; omega) | (simp; done) | (simp; omega))) | with_reducible refine Ext.tr ?_ (by with_reducible assumption))), (by repeat (first | with_reducible assumption | (with_reducible refine BlkN ?_; (first | rfl | (first | omega | (dsimp only; omega) | (simp; done) | (simp; omega)))) | with_reducible refine BlkD ?_ | with_reducible refine BlkDN ?_ | with_reducible refine BlkA ?_ | with_reducible refine BlkE ?_ (by with_reducible assumption) | with_reducible refine BlkS ?_ | (with_reducible refine BlkF ?_ ?_; (first | omega | (dsimp only; omega) | (simp; done) | (simp; omega))) | (with_reducible refine BlkR ?_ ?_; (first | omega | (dsimp only; omega) | (simp; done) | (simp; omega))))), (by repeat (first | with_reducible assumption | (with_reducible refine BlkN ?_; (first | rfl | (first | omega | (dsimp only; omega) | (simp; done) | (simp; omega)))) | with_reducible refine BlkD ?_ | with_reducible refine BlkDN ?_ | with_reducible refine BlkA ?_ | with_reducible refine BlkE ?_ (by with_reducible assumption) | with_reducible refine BlkS ?_ | (with_reducible refine BlkF ?_ ?_; (first | omega | (dsimp only; omega) | (simp; done) | (simp; omega))) | (with_reducible refine BlkR ?_ ?_; (first | omega | (dsimp only; omega) | (simp; done) | (simp; omega))))), P3.out H.out⟩
        case measure => simp [intOf]
      · have h1 : ¬ dg m k < dg n k := by omega
        go_wp2_with fail
        go_quiet (fail)
        go_wp2_with fail
        go_quiet (fail)
        go_wp2_with fail
        go_ret
        exact ⟨ret_int (cmpI_gt (P2.out h)).symm, (by repeat (first | with_reducible exact Below.refl _ _ | with_reducible assumption | with_reducible refine ExtD ?_ | with_reducible refine ExtDN ?_ | with_reducible refine ExtA ?_ | (with_reducible refine ExtR ?_ ?_; (first | omega | (dsimp only; omega) | (simp; done) | (simp; omega))) | (with_reducible refine ExtS ?_ ?_; (first | omega | (dsimp only; omega) | (simp; done) | (simp; omega))) | with_reducible refine Ext.tr ?_ (by with_reducible assumption)))⟩
    · have hk0 : k = 0 := by omega
      subst hk0
      go_wp2_with fail
      go_ret
      exact ⟨ret_int (cmpI_eq (by simpa using Heq.out)).symm, (by repeat (first | with_reducible exact Below.refl _ _ | with_reducible assumption | with_reducible refine ExtD ?_ | with_reducible refine ExtDN ?_ | with_reducible refine ExtA ?_ | (with_reducible refine ExtR ?_ ?_; (first | omega | (dsimp only; omega) | (simp; done) | (simp; omega))) | (with_reducible refine ExtS ?_ ?_; (first | omega | (dsimp only; omega) | (simp; done) | (simp; omega))) | with_reducible refine Ext.tr ?_ (by with_reducible assumption)))⟩
def OfR (w : World) (b : Bool) (n : Nat) (u i : Value) (wr : World) : Prop :=
  ∃ k : Nat, k ≤ 4 ∧ i = .int .i64 k ∧ u = .int .u64 (n / 65536 ^ k : Nat) ∧ Ext w wr ∧ Blk wr w.heap.size 64 (arrA false (fun _ => 0)) ∧ Blk wr (w.heap.size + 1) 64 (arrA b (upto n k))
theorem upto_4 (b : Bool) (n : Nat) (h : n < 18446744073709551616) : arrA b (upto n 4) = arrA b (dg n) := by
  refine arr_ext fun j _ => ?_
  unfold upto
  split
  · rfl
  · unfold dg
    rw [Nat.div_eq_of_lt]
    have : 65536 ^ 4 ≤ 65536 ^ j := Nat.pow_le_pow_right (by decide) (by omega)
    omega
set_option maxHeartbeats 1000000 in
theorem of_any (v : Int) (w : World) (h0 : -9223372036854775808 ≤ v) (h1 : v ≤ 9223372036854775807) :
    Calls Tryz.prog 33 #[.int .i64 v] w fun e w' => e = .returned (longV (decide (v < 0)) (absN v)) ∧ Ext w w' := by
  have z2 := arr_zero false
  have s0 := arr_set0 false true (fun _ => 0)
  by_cases hneg : v < 0
  · have Hd := Lib.hid (show decide (v < 0) = true by simpa using hneg)
    have hw : IntKind.u64.wrap (-(v + 1)) = -(v + 1) := by rw [IntKind.wrap_u64]; omega
    go_enter Tryz.func33, Tryz.ntmps33
    go_wp2_with (with_reducible refine wpL_store_new rfl 64 (.tmp 3) (.tmp 6) rfl (w.heap.size + 1) 64 (arrA false fun _ => 0) (arrA false fun _ => 0) rfl rfl (by simp) (by rw [arr_size]) (arr_one _ _) 17 long_wide (arr_size _ _) ?_)
    clear s0 z2 hw
    have habs : absN v < 18446744073709551616 := by unfold absN; omega
    have hst : -(v + 1) + 1 = ((absN v / 65536 ^ 0 : Nat) : Int) := by simp [absN]; omega
    have Hst := Lib.hid hst
    clear hst
    obtain ⟨n, Hn⟩ : ∃ n, Hid (n = absN v) := ⟨_, rfl⟩
    rw [← Hn.out] at habs Hst
    go_loopw [4, 5] (fun u i wr => OfR w true n u i wr) (fun _ i _ => 4 - (intOf i).toNat)
    case atStart => exact ⟨0, by omega, rfl, by rw [Hst.out], (by repeat (first | with_reducible exact Below.refl _ _ | with_reducible assumption | with_reducible refine ExtD ?_ | with_reducible refine ExtDN ?_ | with_reducible refine ExtA ?_ | (with_reducible refine ExtR ?_ ?_; (first | omega | (dsimp only; omega) | (simp; done) | (simp; omega))) | (with_reducible refine ExtS ?_ ?_; (first | omega | (dsimp only; omega) | (simp; done) | (simp; omega))) | with_reducible refine Ext.tr ?_ (by with_reducible assumption))), (by repeat (first | with_reducible assumption | (with_reducible refine BlkN ?_; (first | rfl | (first | omega | (dsimp only; omega) | (simp; done) | (simp; omega)))) | with_reducible refine BlkD ?_ | with_reducible refine BlkDN ?_ | with_reducible refine BlkA ?_ | with_reducible refine BlkE ?_ (by with_reducible assumption) | with_reducible refine BlkS ?_ | (with_reducible refine BlkF ?_ ?_; (first | omega | (dsimp only; omega) | (simp; done) | (simp; omega))) | (with_reducible refine BlkR ?_ ?_; (first | omega | (dsimp only; omega) | (simp; done) | (simp; omega))))), by rw [← upto_zero]; exact (by repeat (first | with_reducible assumption | (with_reducible refine BlkN ?_; (first | rfl | (first | omega | (dsimp only; omega) | (simp; done) | (simp; omega)))) | with_reducible refine BlkD ?_ | with_reducible refine BlkDN ?_ | with_reducible refine BlkA ?_ | with_reducible refine BlkE ?_ (by with_reducible assumption) | with_reducible refine BlkS ?_ | (with_reducible refine BlkF ?_ ?_; (first | omega | (dsimp only; omega) | (simp; done) | (simp; omega))) | (with_reducible refine BlkR ?_ ?_; (first | omega | (dsimp only; omega) | (simp; done) | (simp; omega)))))⟩
    case round =>
      obtain ⟨k, hk, rfl, rfl, hx, b0, b1⟩ := hrel
      by_cases hlt : k < 4
      · have c1 := (b1.cell (1 + k)).trans (arr_get _ _ k (by omega))
        have f1 := b1.frozen (1 + k)
        have e1 : ((n / 65536 ^ k : Nat) : Int) % 65536 = ((dg n k : Nat) : Int) := by unfold dg; omega
        have e2 : ((n / 65536 ^ k : Nat) : Int) / 65536 = ((n / 65536 ^ (k + 1) : Nat) : Int) := by rw [Nat.pow_succ, ← Nat.div_div_eq_div_mul]; omega
        have hb : n / 65536 ^ k < 18446744073709551616 := Nat.lt_of_le_of_lt (Nat.div_le_self _ _) habs
        obtain ⟨q, Hq⟩ : ∃ q, Hid (q = n / 65536 ^ k) := ⟨_, rfl⟩
        obtain ⟨q2, Hq2⟩ : ∃ q, Hid (q = n / 65536 ^ (k + 1)) := ⟨_, rfl⟩
        rw [← Hq.out] at e1 e2 hb ⊢
        rw [← Hq2.out] at e2
        go_wp2_with fail
        go_roundw
        case rel => exact ⟨k + 1, by omega, by go_num, by rw [← Hq2.out], (by repeat (first | with_reducible exact Below.refl _ _ | with_reducible assumption | with_reducible refine ExtD ?_ | with_reducible refine ExtDN ?_ | with_reducible refine ExtA ?_ | (with_reducible refine ExtR ?_ ?_; (first | omega | (dsimp only; omega) | (simp; done) | (simp; omega))) | (with_reducible refine ExtS ?_ ?_; (first | omega | (dsimp only; omega) | (simp; done) | (simp; omega))) | with_reducible refine Ext.tr ?_ (by with_reducible assumption))), (by repeat (first | with_reducible assumption | (with_reducible refine BlkN ?_; (first | rfl | (first | omega | (dsimp only; omega) | (simp; done) | (simp; omega)))) | with_reducible refine BlkD ?_ | with_reducible refine BlkDN ?_ | with_reducible refine BlkA ?_ | with_reducible refine BlkE ?_ (by with_reducible assumption) | with_reducible refine BlkS ?_ | (with_reducible refine BlkF ?_ ?_; (first | omega | (dsimp only; omega) | (simp; done) | (simp; omega))) | (with_reducible refine BlkR ?_ ?_; (first | omega | (dsimp only; omega) | (simp; done) | (simp; omega))))), by rw [← upto_next, ← arr_set _ _ _ _ (by omega)]; exact (by repeat (first | with_reducible assumption | (with_reducible refine BlkN ?_; (first | rfl | (first | omega | (dsimp only; omega) | (simp; done) | (simp; omega)))) | with_reducible refine BlkD ?_ | with_reducible refine BlkDN ?_ | with_reducible refine BlkA ?_ | with_reducible refine BlkE ?_ (by with_reducible assumption) | with_reducible refine BlkS ?_ | (with_reducible refine BlkF ?_ ?_; (first | omega | (dsimp only; omega) | (simp; done) | (simp; omega))) | (with_reducible refine BlkR ?_ ?_; (first | omega | (dsimp only; omega) | (simp; done) | (simp; omega)))))⟩
        case measure => simp [intOf]; omega
      · have hk4 : k = 4 := by omega
        subst hk4
        rw [upto_4 _ _ habs] at b1
        go_wp2_with (first
          | with_reducible refine wpL_load_row rfl 64 (.tmp 3) rfl _ 64 (arrA true (dg n)) 17 rfl b1 long_wide (arr_size _ _) ?_
          | with_reducible refine wpL_store_row rfl 64 (.tmp 2) (.tmp 28) rfl _ 64 (arrA false fun _ => 0) (arrA true (dg n)) rfl rfl b0 (by rw [arr_size, arr_size]) (arr_one _ _) 17 long_wide (arr_size _ _) ?_)
        exact bodyPost_ret (v := .agg (arrA true (dg n))) (res_row rfl _ _ _ 64 _ 17 rfl b0.setRow_ long_wide (arr_size _ _)) rfl ⟨by rw [Hd.out, ← Hn.out], (by repeat (first | with_reducible exact Below.refl _ _ | with_reducible assumption | with_reducible refine ExtD ?_ | with_reducible refine ExtDN ?_ | with_reducible refine ExtA ?_ | (with_reducible refine ExtR ?_ ?_; (first | omega | (dsimp only; omega) | (simp; done) | (simp; omega))) | (with_reducible refine ExtS ?_ ?_; (first | omega | (dsimp only; omega) | (simp; done) | (simp; omega))) | with_reducible refine Ext.tr ?_ (by with_reducible assumption)))⟩
  · have Hd := Lib.hid (show decide (v < 0) = false by simpa using hneg)
    go_enter Tryz.func33, Tryz.ntmps33
    go_wp2_with (with_reducible refine wpL_store_new rfl 64 (.tmp 3) (.tmp 6) rfl (w.heap.size + 1) 64 (arrA false fun _ => 0) (arrA false fun _ => 0) rfl rfl (by simp) (by rw [arr_size]) (arr_one _ _) 17 long_wide (arr_size _ _) ?_)
    clear s0 z2
    have habs : absN v < 18446744073709551616 := by unfold absN; omega
    have hst : v = ((absN v / 65536 ^ 0 : Nat) : Int) := by simp [absN]; omega
    have Hst := Lib.hid hst
    clear hst
    obtain ⟨n, Hn⟩ : ∃ n, Hid (n = absN v) := ⟨_, rfl⟩
    rw [← Hn.out] at habs Hst
    go_loopw [4, 5] (fun u i wr => OfR w false n u i wr) (fun _ i _ => 4 - (intOf i).toNat)
    case atStart => exact ⟨0, by omega, rfl, by rw [Hst.out], (by repeat (first | with_reducible exact Below.refl _ _ | with_reducible assumption | with_reducible refine ExtD ?_ | with_reducible refine ExtDN ?_ | with_reducible refine ExtA ?_ | (with_reducible refine ExtR ?_ ?_; (first | omega | (dsimp only; omega) | (simp; done) | (simp; omega))) | (with_reducible refine ExtS ?_ ?_; (first | omega | (dsimp only; omega) | (simp; done) | (simp; omega))) | with_reducible refine Ext.tr ?_ (by with_reducible assumption))), (by repeat (first | with_reducible assumption | (with_reducible refine BlkN ?_; (first | rfl | (first | omega | (dsimp only; omega) | (simp; done) | (simp; omega)))) | with_reducible refine BlkD ?_ | with_reducible refine BlkDN ?_ | with_reducible refine BlkA ?_ | with_reducible refine BlkE ?_ (by with_reducible assumption) | with_reducible refine BlkS ?_ | (with_reducible refine BlkF ?_ ?_; (first | omega | (dsimp only; omega) | (simp; done) | (simp; omega))) | (with_reducible refine BlkR ?_ ?_; (first | omega | (dsimp only; omega) | (simp; done) | (simp; omega))))), by rw [← upto_zero]; exact (by repeat (first | with_reducible assumption | (with_reducible refine BlkN ?_; (first | rfl | (first | omega | (dsimp only; omega) | (simp; done) | (simp; omega)))) | with_reducible refine BlkD ?_ | with_reducible refine BlkDN ?_ | with_reducible refine BlkA ?_ | with_reducible refine BlkE ?_ (by with_reducible assumption) | with_reducible refine BlkS ?_ | (with_reducible refine BlkF ?_ ?_; (first | omega | (dsimp only; omega) | (simp; done) | (simp; omega))) | (with_reducible refine BlkR ?_ ?_; (first | omega | (dsimp only; omega) | (simp; done) | (simp; omega)))))⟩
    case round =>
      obtain ⟨k, hk, rfl, rfl, hx, b0, b1⟩ := hrel
      by_cases hlt : k < 4
      · have c1 := (b1.cell (1 + k)).trans (arr_get _ _ k (by omega))
        have f1 := b1.frozen (1 + k)
        have e1 : ((n / 65536 ^ k : Nat) : Int) % 65536 = ((dg n k : Nat) : Int) := by unfold dg; omega
        have e2 : ((n / 65536 ^ k : Nat) : Int) / 65536 = ((n / 65536 ^ (k + 1) : Nat) : Int) := by rw [Nat.pow_succ, ← Nat.div_div_eq_div_mul]; omega
        have hb : n / 65536 ^ k < 18446744073709551616 := Nat.lt_of_le_of_lt (Nat.div_le_self _ _) habs
        obtain ⟨q, Hq⟩ : ∃ q, Hid (q = n / 65536 ^ k) := ⟨_, rfl⟩
        obtain ⟨q2, Hq2⟩ : ∃ q, Hid (q = n / 65536 ^ (k + 1)) := ⟨_, rfl⟩
        rw [← Hq.out] at e1 e2 hb ⊢
        rw [← Hq2.out] at e2
        go_wp2_with fail
        go_roundw
        case rel => exact ⟨k + 1, by omega, by go_num, by rw [← Hq2.out], (by repeat (first | with_reducible exact Below.refl _ _ | with_reducible assumption | with_reducible refine ExtD ?_ | with_reducible refine ExtDN ?_ | with_reducible refine ExtA ?_ | (with_reducible refine ExtR ?_ ?_; (first | omega | (dsimp only; omega) | (simp; done) | (simp; omega))) | (with_reducible refine ExtS ?_ ?_; (first | omega | (dsimp only; omega) | (simp; done) | (simp; omega))) | with_reducible refine Ext.tr ?_ (by with_reducible assumption))), (by repeat (first | with_reducible assumption | (with_reducible refine BlkN ?_; (first | rfl | (first | omega | (dsimp only; omega) | (simp; done) | (simp; omega)))) | with_reducible refine BlkD ?_ | with_reducible refine BlkDN ?_ | with_reducible refine BlkA ?_ | with_reducible refine BlkE ?_ (by with_reducible assumption) | with_reducible refine BlkS ?_ | (with_reducible refine BlkF ?_ ?_; (first | omega | (dsimp only; omega) | (simp; done) | (simp; omega))) | (with_reducible refine BlkR ?_ ?_; (first | omega | (dsimp only; omega) | (simp; done) | (simp; omega))))), by rw [← upto_next, ← arr_set _ _ _ _ (by omega)]; exact (by repeat (first | with_reducible assumption | (with_reducible refine BlkN ?_; (first | rfl | (first | omega | (dsimp only; omega) | (simp; done) | (simp; omega)))) | with_reducible refine BlkD ?_ | with_reducible refine BlkDN ?_ | with_reducible refine BlkA ?_ | with_reducible refine BlkE ?_ (by with_reducible assumption) | with_reducible refine BlkS ?_ | (with_reducible refine BlkF ?_ ?_; (first | omega | (dsimp only; omega) | (simp; done) | (simp; omega))) | (with_reducible refine BlkR ?_ ?_; (first | omega | (dsimp only; omega) | (simp; done) | (simp; omega)))))⟩
        case measure => simp [intOf]; omega
      · have hk4 : k = 4 := by omega
        subst hk4
        rw [upto_4 _ _ habs] at b1
        go_wp2_with (first
          | with_reducible refine wpL_load_row rfl 64 (.tmp 3) rfl _ 64 (arrA false (dg n)) 17 rfl b1 long_wide (arr_size _ _) ?_
          | with_reducible refine wpL_store_row rfl 64 (.tmp 2) (.tmp 28) rfl _ 64 (arrA false fun _ => 0) (arrA false (dg n)) rfl rfl b0 (by rw [arr_size, arr_size]) (arr_one _ _) 17 long_wide (arr_size _ _) ?_)
        exact bodyPost_ret (v := .agg (arrA false (dg n))) (res_row rfl _ _ _ 64 _ 17 rfl b0.setRow_ long_wide (arr_size _ _)) rfl ⟨by rw [Hd.out, ← Hn.out], (by repeat (first | with_reducible exact Below.refl _ _ | with_reducible assumption | with_reducible refine ExtD ?_ | with_reducible refine ExtDN ?_ | with_reducible refine ExtA ?_ | (with_reducible refine ExtR ?_ ?_; (first | omega | (dsimp only; omega) | (simp; done) | (simp; omega))) | (with_reducible refine ExtS ?_ ?_; (first | omega | (dsimp only; omega) | (simp; done) | (simp; omega))) | with_reducible refine Ext.tr ?_ (by with_reducible assumption)))⟩
end Go.Proofs.YtjomgppbialeoaaGreat

namespace Go.Proofs.YtjomgppbialeoaaGreat
open Go.RowKit
set_option linter.unusedVariables false
set_option linter.unusedSimpArgs false
abbrev plusV (a b : Bool) (m n : Nat) : Value := longV (plusB a b m n) (plusN a b m n)
theorem plusV_eq {a b : Bool} {m n : Nat} (h : (a == b) = true) : plusV a b m n = longV a (m + n) := by
  have : a = b := by simpa using h
  simp [plusV, plusB, plusN, this]
theorem plusV_ge {a b : Bool} {m n : Nat} (h : (a == b) = false) (hc : n ≤ m) : plusV a b m n = longV a (m - n) := by
  have : ¬ a = b := by simpa using h
  simp [plusV, plusB, plusN, this, hc]
theorem plusV_lt {a b : Bool} {m n : Nat} (h : (a == b) = false) (hc : ¬ n ≤ m) : plusV a b m n = longV b (n - m) := by
  have : ¬ a = b := by simpa using h
  simp [plusV, plusB, plusN, this, hc]
theorem cmpI_ge {m n : Nat} (h : n ≤ m) : 0 ≤ cmpI m n := by unfold cmpI; split <;> (try split) <;> omega
theorem cmpI_neg {m n : Nat} (h : ¬ n ≤ m) : cmpI m n < 0 := by rw [cmpI_lt (by omega)]; decide
set_option maxHeartbeats 1000000 in
theorem plus_long (a b : Bool) (m n : Nat) (w : World) (hm : m < 65536 ^ 16) (hn : n < 65536 ^ 16) :
    Calls Tryz.prog 36 #[longV a m, longV b n] w fun e w' => e = .returned (plusV a b m n) ∧ Ext w w' := by
  have Hm := Lib.hid hm
  have Hn := Lib.hid hn
  clear hm hn
  have g0 := arr_get0 a (dg m)
  have g1 := arr_get0 b (dg n)
  have z2 := arr_zero false
  obtain ⟨W, HW⟩ : ∃ W, Hid (W = ((w.alloc (.cells (arrA a (dg m)) 64)).alloc (.cells (arrA b (dg n)) 64)).alloc (.cells (arrA false fun _ => 0) 64)) := ⟨_, rfl⟩
  have b0 : Blk W w.heap.size 64 (arrA a (dg m)) := by rw [HW.out]; exact (by repeat (first | with_reducible assumption | (with_reducible refine BlkN ?_; (first | rfl | (first | omega | (dsimp only; omega) | (simp; done) | (simp; omega)))) | with_reducible refine BlkD ?_ | with_reducible refine BlkDN ?_ | with_reducible refine BlkA ?_ | with_reducible refine BlkE ?_ (by with_reducible assumption) | with_reducible refine BlkS ?_ | (with_reducible refine BlkF ?_ ?_; (first | omega | (dsimp only; omega) | (simp; done) | (simp; omega))) | (with_reducible refine BlkR ?_ ?_; (first | omega | (dsimp only; omega) | (simp; done) | (simp; omega)))))
  have b1 : Blk W (w.heap.size + 1) 64 (arrA b (dg n)) := by rw [HW.out]; exact (by repeat (first | with_reducible assumption | (with_reducible refine BlkN ?_; (first | rfl | (first | omega | (dsimp only; omega) | (simp; done) | (simp; omega)))) | with_reducible refine BlkD ?_ | with_reducible refine BlkDN ?_ | with_reducible refine BlkA ?_ | with_reducible refine BlkE ?_ (by with_reducible assumption) | with_reducible refine BlkS ?_ | (with_reducible refine BlkF ?_ ?_; (first | omega | (dsimp only; omega) | (simp; done) | (simp; omega))) | (with_reducible refine BlkR ?_ ?_; (first | omega | (dsimp only; omega) | (simp; done) | (simp; omega)))))
  have b2 : Blk W (w.heap.size + 1 + 1) 64 (arrA false fun _ => 0) := by rw [HW.out]; exact (by repeat (first | with_reducible assumption | (with_reducible refine BlkN ?_; (first | rfl | (first | omega | (dsimp only; omega) | (simp; done) | (simp; omega)))) | with_reducible refine BlkD ?_ | with_reducible refine BlkDN ?_ | with_reducible refine BlkA ?_ | with_reducible refine BlkE ?_ (by with_reducible assumption) | with_reducible refine BlkS ?_ | (with_reducible refine BlkF ?_ ?_; (first | omega | (dsimp only; omega) | (simp; done) | (simp; omega))) | (with_reducible refine BlkR ?_ ?_; (first | omega | (dsimp only; omega) | (simp; done) | (simp; omega)))))
  have hxW : Ext w W := by rw [HW.out]; exact (by repeat (first | with_reducible exact Below.refl _ _ | with_reducible assumption | with_reducible refine ExtD ?_ | with_reducible refine ExtDN ?_ | with_reducible refine ExtA ?_ | (with_reducible refine ExtR ?_ ?_; (first | omega | (dsimp only; omega) | (simp; done) | (simp; omega))) | (with_reducible refine ExtS ?_ ?_; (first | omega | (dsimp only; omega) | (simp; done) | (simp; omega))) | with_reducible refine Ext.tr ?_ (by with_reducible assumption)))
  have c0 := (b0.cell 0).trans g0
  have c1 := (b1.cell 0).trans g1
  cases hab : (a == b)
  · by_cases hc : n ≤ m
    · have hge := cmpI_ge hc
      have E := Lib.hid (plusV_ge hab hc)
      rw [E.out]
      unfold longV
      go_enter Tryz.func36, Tryz.ntmps36
      go_upto_region 1 with fail
      rw [← HW.out]
      go_wp2_with (first
        | (go_at_call 37; go_must (with_reducible refine (cmp_any a b m n _ Hm.out Hn.out).mono ?_); rintro e w1 ⟨rfl, hx1⟩; have B0 := BlkE b0 hx1; have B1 := BlkE b1 hx1; have B2 := BlkE b2 hx1)
        | (go_at_call 63; go_must (with_reducible refine (down_any a b m n _ hc).mono ?_); rintro e w2 ⟨rfl, hx2⟩; have B3 := BlkE B2 hx2)
        | (with_reducible refine wpL_load_row rfl 64 (.tmp 2) rfl _ 64 (arrA a (dg m)) 17 rfl b0 long_wide (arr_size _ _) ?_) | (with_reducible refine wpL_load_row rfl 64 (.tmp 3) rfl _ 64 (arrA b (dg n)) 17 rfl b1 long_wide (arr_size _ _) ?_) | (with_reducible refine wpL_load_row rfl 64 (.tmp 2) rfl _ 64 (arrA a (dg m)) 17 rfl B0 long_wide (arr_size _ _) ?_) | (with_reducible refine wpL_load_row rfl 64 (.tmp 3) rfl _ 64 (arrA b (dg n)) 17 rfl B1 long_wide (arr_size _ _) ?_)
        | (with_reducible refine wpL_store_row rfl 64 (.tmp 4) (.tmp 19) rfl _ 64 (arrA false fun _ => 0) (arrA a (dg (m - n))) rfl rfl B3 (by rw [arr_size, arr_size]) (arr_one _ _) 17 long_wide (arr_size _ _) ?_))
      exact bodyPost_ret (v := .agg (arrA a (dg (m - n)))) (res_row rfl _ _ _ 64 _ 17 rfl B3.setRow_ long_wide (arr_size _ _)) rfl ⟨rfl, (by repeat (first | with_reducible exact Below.refl _ _ | with_reducible assumption | with_reducible refine ExtD ?_ | with_reducible refine ExtDN ?_ | with_reducible refine ExtA ?_ | (with_reducible refine ExtR ?_ ?_; (first | omega | (dsimp only; omega) | (simp; done) | (simp; omega))) | (with_reducible refine ExtS ?_ ?_; (first | omega | (dsimp only; omega) | (simp; done) | (simp; omega))) | with_reducible refine Ext.tr ?_ (by with_reducible assumption)))⟩
    · have hge := cmpI_neg hc
      have E := Lib.hid (plusV_lt hab hc)
      rw [E.out]
      unfold longV
      go_enter Tryz.func36, Tryz.ntmps36
      go_upto_region 1 with fail
      rw [← HW.out]
      go_wp2_with (first
        | (go_at_call 37; go_must (with_reducible refine (cmp_any a b m n _ Hm.out Hn.out).mono ?_); rintro e w1 ⟨rfl, hx1⟩; have B0 := BlkE b0 hx1; have B1 := BlkE b1 hx1; have B2 := BlkE b2 hx1)
        | (go_at_call 63; go_must (with_reducible refine (down_any b a n m _ (by omega)).mono ?_); rintro e w2 ⟨rfl, hx2⟩; have B3 := BlkE B2 hx2)
        | (with_reducible refine wpL_load_row rfl 64 (.tmp 2) rfl _ 64 (arrA a (dg m)) 17 rfl b0 long_wide (arr_size _ _) ?_) | (with_reducible refine wpL_load_row rfl 64 (.tmp 3) rfl _ 64 (arrA b (dg n)) 17 rfl b1 long_wide (arr_size _ _) ?_) | (with_reducible refine wpL_load_row rfl 64 (.tmp 2) rfl _ 64 (arrA a (dg m)) 17 rfl B0 long_wide (arr_size _ _) ?_) | (with_reducible refine wpL_load_row rfl 64 (.tmp 3) rfl _ 64 (arrA b (dg n)) 17 rfl B1 long_wide (arr_size _ _) ?_)
        | (with_reducible refine wpL_store_row rfl 64 (.tmp 4) (.tmp 22) rfl _ 64 (arrA false fun _ => 0) (arrA b (dg (n - m))) rfl rfl B3 (by rw [arr_size, arr_size]) (arr_one _ _) 17 long_wide (arr_size _ _) ?_))
      exact bodyPost_ret (v := .agg (arrA b (dg (n - m)))) (res_row rfl _ _ _ 64 _ 17 rfl B3.setRow_ long_wide (arr_size _ _)) rfl ⟨rfl, (by repeat (first | with_reducible exact Below.refl _ _ | with_reducible assumption | with_reducible refine ExtD ?_ | with_reducible refine ExtDN ?_ | with_reducible refine ExtA ?_ | (with_reducible refine ExtR ?_ ?_; (first | omega | (dsimp only; omega) | (simp; done) | (simp; omega))) | (with_reducible refine ExtS ?_ ?_; (first | omega | (dsimp only; omega) | (simp; done) | (simp; omega))) | with_reducible refine Ext.tr ?_ (by with_reducible assumption)))⟩
  · have E := Lib.hid (plusV_eq (m := m) (n := n) hab)
    rw [E.out]
    unfold longV
    go_enter Tryz.func36, Tryz.ntmps36
    go_upto_region 1 with fail
    rw [← HW.out]
    go_wp2_with (first
      | (go_at_call 62; go_must (with_reducible refine (up_any a b m n _).mono ?_); rintro e w2 ⟨rfl, hx2⟩; have B3 := BlkE b2 hx2)
      | (with_reducible refine wpL_load_row rfl 64 (.tmp 2) rfl _ 64 (arrA a (dg m)) 17 rfl b0 long_wide (arr_size _ _) ?_) | (with_reducible refine wpL_load_row rfl 64 (.tmp 3) rfl _ 64 (arrA b (dg n)) 17 rfl b1 long_wide (arr_size _ _) ?_)
      | (with_reducible refine wpL_store_row rfl 64 (.tmp 4) (.tmp 12) rfl _ 64 (arrA false fun _ => 0) (arrA a (dg (m + n))) rfl rfl B3 (by rw [arr_size, arr_size]) (arr_one _ _) 17 long_wide (arr_size _ _) ?_))
    exact bodyPost_ret (v := .agg (arrA a (dg (m + n)))) (res_row rfl _ _ _ 64 _ 17 rfl B3.setRow_ long_wide (arr_size _ _)) rfl ⟨rfl, (by repeat (first | with_reducible exact Below.refl _ _ | with_reducible assumption | with_reducible refine ExtD ?_ | with_reducible refine ExtDN ?_ | with_reducible refine ExtA ?_ | (with_reducible refine ExtR ?_ ?_; (first | omega | (dsimp only; omega) | (simp; done) | (simp; omega))) | (with_reducible refine ExtS ?_ ?_; (first | omega | (dsimp only; omega) | (simp; done) | (simp; omega))) | with_reducible refine Ext.tr ?_ (by with_reducible assumption)))⟩
end Go.Proofs.YtjomgppbialeoaaGreat

namespace Go.Proofs.YtjomgppbialeoaaGreat
open Go.RowKit
set_option linter.unusedVariables false
set_option linter.unusedSimpArgs false
def FitR1 (w : World) (b : Bool) (m : Nat) (i : Value) (wr : World) : Prop :=
  ∃ k : Nat, 4 ≤ k ∧ k ≤ 16 ∧ i = .int .i64 k ∧ Ext w wr ∧ Blk wr w.heap.size 64 (arrA b (dg m)) ∧ ∀ j, 4 ≤ j → j < k → dg m j = 0
def FitR2 (w : World) (b : Bool) (m : Nat) (u i : Value) (wr : World) : Prop :=
  ∃ k : Nat, k ≤ 4 ∧ i = .int .i64 ((k : Int) - 1) ∧ u = .int .u64 ((m / 65536 ^ k : Nat) : Int) ∧ Ext w wr ∧ Blk wr w.heap.size 64 (arrA b (dg m))
theorem ret2 {k : IntKind} {a b : Int} {x y : Bool} (h : a = b) (h2 : x = y) : Ending.returned (.tuple #[.int k a, .bool x]) = .returned (.tuple #[.int k b, .bool y]) := by rw [h, h2]
set_option maxHeartbeats 2000000 in
theorem fits_any (b : Bool) (m : Nat) (w : World) (hm : m < 65536 ^ 16) :
    Calls Tryz.prog 31 #[longV b m] w fun e w' => e = .returned (.tuple #[.int .i64 (nf (sg b m)), .bool (fits64 (sg b m))]) ∧ Ext w w' := by
  have Hm := Lib.hid hm
  clear hm
  have g0 := arr_get0 b (dg m)
  unfold longV
  go_enter Tryz.func31, Tryz.ntmps31
  go_wp2_with fail
  go_loopw [4] (fun i wr => FitR1 w b m i wr) (fun i _ => 16 - (intOf i).toNat)
  case atStart => exact ⟨4, by omega, by omega, rfl, (by repeat (first | with_reducible exact Below.refl _ _ | with_reducible assumption | with_reducible refine ExtD ?_ | with_reducible refine ExtDN ?_ | with_reducible refine ExtA ?_ | (with_reducible refine ExtR ?_ ?_; (first | omega | (dsimp only; omega) | (simp; done) | (simp; omega))) | (with_reducible refine ExtS ?_ ?_; (first | omega | (dsimp only; omega) | (simp; done) | (simp; omega))) | with_reducible refine Ext.tr ?_ (by with_reducible assumption))), (by repeat (first | with_reducible assumption | (with_reducible refine BlkN ?_; (first | rfl | (first | omega | (dsimp only; omega) | (simp; done) | (simp; omega)))) | with_reducible refine BlkD ?_ | with_reducible refine BlkDN ?_ | with_reducible refine BlkA ?_ | with_reducible refine BlkE ?_ (by with_reducible assumption) | with_reducible refine BlkS ?_ | (with_reducible refine BlkF ?_ ?_; (first | omega | (dsimp only; omega) | (simp; done) | (simp; omega))) | (with_reducible refine BlkR ?_ ?_; (first | omega | (dsimp only; omega) | (simp; done) | (simp; omega))))), fun j h1 h2 => by omega⟩
  case round =>
    obtain ⟨k, hk1, hk, rfl, hx, b0, hz⟩ := hrel
    have Hz := Lib.hid hz
    clear hz
    by_cases hlt : k < 16
    · have c0 := (b0.cell (1 + k)).trans (arr_get _ _ k hlt)
      by_cases hd : dg m k = 0
      · have Hd := Lib.hid hd
        rw [hd] at c0
        clear hd
        go_wp2_with fail
        go_roundw
        case rel => exact ⟨k + 1, by omega, by omega, by go_num, (by repeat (first | with_reducible exact Below.refl _ _ | with_reducible assumption | with_reducible refine ExtD ?_ | with_reducible refine ExtDN ?_ | with_reducible refine ExtA ?_ | (with_reducible refine ExtR ?_ ?_; (first | omega | (dsimp only; omega) | (simp; done) | (simp; omega))) | (with_reducible refine ExtS ?_ ?_; (first | omega | (dsimp only; omega) | (simp; done) | (simp; omega))) | with_reducible refine Ext.tr ?_ (by with_reducible assumption))), (by repeat (first | with_reducible assumption | (with_reducible refine BlkN ?_; (first | rfl | (first | omega | (dsimp only; omega) | (simp; done) | (simp; omega)))) | with_reducible refine BlkD ?_ | with_reducible refine BlkDN ?_ | with_reducible refine BlkA ?_ | with_reducible refine BlkE ?_ (by with_reducible assumption) | with_reducible refine BlkS ?_ | (with_reducible refine BlkF ?_ ?_; (first | omega | (dsimp only; omega) | (simp; done) | (simp; omega))) | (with_reducible refine BlkR ?_ ?_; (first | omega | (dsimp only; omega) | (simp; done) | (simp; omega))))), fun j h1 h2 => by rcases Nat.lt_or_ge j k with h | h; exact Hz.out j h1 h; rw [show j = k by omega]; exact Hd.out⟩
        case measure => simp [intOf]; omega
      · have hbig := dg_big m k hk1 hd
        have hf := fits_big b m (by omega)
        have Hf := Lib.hid hf
        have hd1 : ((dg m k : Nat) : Int) ≠ 0 := by omega
        have hd2 : (((dg m k : Nat) : Int) == 0) = false := by simpa using hd
        clear hf hd hbig
        go_wp2_with fail
        go_ret2
        exact ⟨ret2 (by unfold nf; rw [Hf.out]; rfl) Hf.out.symm, (by repeat (first | with_reducible exact Below.refl _ _ | with_reducible assumption | with_reducible refine ExtD ?_ | with_reducible refine ExtDN ?_ | with_reducible refine ExtA ?_ | (with_reducible refine ExtR ?_ ?_; (first | omega | (dsimp only; omega) | (simp; done) | (simp; omega))) | (with_reducible refine ExtS ?_ ?_; (first | omega | (dsimp only; omega) | (simp; done) | (simp; omega))) | with_reducible refine Ext.tr ?_ (by with_reducible assumption)))⟩
    · have hk16 : k = 16 := by omega
      subst hk16
      have hs := dg_small m Hm.out Hz.out
      clear Hz Hm
      go_wp2_with fail
      obtain ⟨wo, rfl⟩ : ∃ wo : World, wo = wr := ⟨_, rfl⟩
      have h4 : m / 65536 ^ 4 = 0 := Nat.div_eq_of_lt hs
      go_loopw [5, 6] (fun u i wr => FitR2 w b m u i wr) (fun _ i _ => (intOf i + 1).toNat)
      case atStart => exact ⟨4, by omega, rfl, by rw [h4]; rfl, (by repeat (first | with_reducible exact Below.refl _ _ | with_reducible assumption | with_reducible refine ExtD ?_ | with_reducible refine ExtDN ?_ | with_reducible refine ExtA ?_ | (with_reducible refine ExtR ?_ ?_; (first | omega | (dsimp only; omega) | (simp; done) | (simp; omega))) | (with_reducible refine ExtS ?_ ?_; (first | omega | (dsimp only; omega) | (simp; done) | (simp; omega))) | with_reducible refine Ext.tr ?_ (by with_reducible assumption))), (by repeat (first | with_reducible assumption | (with_reducible refine BlkN ?_; (first | rfl | (first | omega | (dsimp only; omega) | (simp; done) | (simp; omega)))) | with_reducible refine BlkD ?_ | with_reducible refine BlkDN ?_ | with_reducible refine BlkA ?_ | with_reducible refine BlkE ?_ (by with_reducible assumption) | with_reducible refine BlkS ?_ | (with_reducible refine BlkF ?_ ?_; (first | omega | (dsimp only; omega) | (simp; done) | (simp; omega))) | (with_reducible refine BlkR ?_ ?_; (first | omega | (dsimp only; omega) | (simp; done) | (simp; omega)))))⟩
      case round =>
        obtain ⟨k, hk, rfl, rfl, hx2, b1⟩ := hrel
        clear h4 hx b0
        by_cases hlt : 0 < k
        · obtain ⟨k, rfl⟩ : ∃ j, k = j + 1 := ⟨k - 1, by omega⟩
          have e1 : ((k + 1 : Nat) : Int) - 1 = k := by omega
          rw [e1]
          have c0 := (b1.cell (1 + k)).trans (arr_get _ _ k (by omega))
          have q1 : m / 65536 ^ k = m / 65536 ^ (k + 1) * 65536 + dg m k := by unfold dg; rw [Nat.pow_succ, ← Nat.div_div_eq_div_mul]; omega
          have q2 : m / 65536 ^ k < 18446744073709551616 := Nat.lt_of_le_of_lt (Nat.div_le_self _ _) hs
          have d0 := dg_lt m k
          obtain ⟨q, Hq⟩ : ∃ q, Hid (q = m / 65536 ^ k) := ⟨_, rfl⟩
          obtain ⟨p, Hp⟩ : ∃ q, Hid (q = m / 65536 ^ (k + 1)) := ⟨_, rfl⟩
          rw [← Hp.out] at q1 ⊢
          rw [← Hq.out] at q1 q2
          have q3 : p * 65536 + dg m k < 18446744073709551616 := by omega
          have Q1 := Lib.hid q1
          clear q1 q2 e1
          go_wp2_with fail
          go_roundw
          case rel => exact ⟨k, by omega, by simp, by rw [← Hq.out, Q1.out]; go_num, (by repeat (first | with_reducible exact Below.refl _ _ | with_reducible assumption | with_reducible refine ExtD ?_ | with_reducible refine ExtDN ?_ | with_reducible refine ExtA ?_ | (with_reducible refine ExtR ?_ ?_; (first | omega | (dsimp only; omega) | (simp; done) | (simp; omega))) | (with_reducible refine ExtS ?_ ?_; (first | omega | (dsimp only; omega) | (simp; done) | (simp; omega))) | with_reducible refine Ext.tr ?_ (by with_reducible assumption))), (by repeat (first | with_reducible assumption | (with_reducible refine BlkN ?_; (first | rfl | (first | omega | (dsimp only; omega) | (simp; done) | (simp; omega)))) | with_reducible refine BlkD ?_ | with_reducible refine BlkDN ?_ | with_reducible refine BlkA ?_ | with_reducible refine BlkE ?_ (by with_reducible assumption) | with_reducible refine BlkS ?_ | (with_reducible refine BlkF ?_ ?_; (first | omega | (dsimp only; omega) | (simp; done) | (simp; omega))) | (with_reducible refine BlkR ?_ ?_; (first | omega | (dsimp only; omega) | (simp; done) | (simp; omega)))))⟩
          case measure => simp [intOf]
        · have hk0 : k = 0 := by omega
          subst hk0
          rw [Nat.pow_zero, Nat.div_one]
          have c0 := (b1.cell 0).trans g0
          cases b
          · have Hf := Lib.hid (fits_pos m)
            by_cases hm1 : m ≤ 9223372036854775807
            · go_wp2_with fail
              go_ret2
              exact ⟨ret2 (by unfold nf; rw [Hf.out]; simp [hm1, sg]) (by rw [Hf.out]; simp [hm1]), (by repeat (first | with_reducible exact Below.refl _ _ | with_reducible assumption | with_reducible refine ExtD ?_ | with_reducible refine ExtDN ?_ | with_reducible refine ExtA ?_ | (with_reducible refine ExtR ?_ ?_; (first | omega | (dsimp only; omega) | (simp; done) | (simp; omega))) | (with_reducible refine ExtS ?_ ?_; (first | omega | (dsimp only; omega) | (simp; done) | (simp; omega))) | with_reducible refine Ext.tr ?_ (by with_reducible assumption)))⟩
            · go_wp2_with fail
              go_ret2
              exact ⟨ret2 (by unfold nf; rw [Hf.out]; simp [hm1]) (by rw [Hf.out]; simp [hm1]), (by repeat (first | with_reducible exact Below.refl _ _ | with_reducible assumption | with_reducible refine ExtD ?_ | with_reducible refine ExtDN ?_ | with_reducible refine ExtA ?_ | (with_reducible refine ExtR ?_ ?_; (first | omega | (dsimp only; omega) | (simp; done) | (simp; omega))) | (with_reducible refine ExtS ?_ ?_; (first | omega | (dsimp only; omega) | (simp; done) | (simp; omega))) | with_reducible refine Ext.tr ?_ (by with_reducible assumption)))⟩
          · have Hf := Lib.hid (fits_neg m)
            by_cases hz : m = 0
            · subst hz
              go_wp2_with fail
              go_ret2
              exact ⟨ret2 (by decide) (by decide), (by repeat (first | with_reducible exact Below.refl _ _ | with_reducible assumption | with_reducible refine ExtD ?_ | with_reducible refine ExtDN ?_ | with_reducible refine ExtA ?_ | (with_reducible refine ExtR ?_ ?_; (first | omega | (dsimp only; omega) | (simp; done) | (simp; omega))) | (with_reducible refine ExtS ?_ ?_; (first | omega | (dsimp only; omega) | (simp; done) | (simp; omega))) | with_reducible refine Ext.tr ?_ (by with_reducible assumption)))⟩
            · have hpos : 0 < m := by omega
              clear hz
              by_cases hm1 : m ≤ 9223372036854775808
              · go_wp2_with fail
                go_ret2
                exact ⟨ret2 (by unfold nf; rw [Hf.out]; simp [hm1, sg]; omega) (by rw [Hf.out]; simp [hm1]), (by repeat (first | with_reducible exact Below.refl _ _ | with_reducible assumption | with_reducible refine ExtD ?_ | with_reducible refine ExtDN ?_ | with_reducible refine ExtA ?_ | (with_reducible refine ExtR ?_ ?_; (first | omega | (dsimp only; omega) | (simp; done) | (simp; omega))) | (with_reducible refine ExtS ?_ ?_; (first | omega | (dsimp only; omega) | (simp; done) | (simp; omega))) | with_reducible refine Ext.tr ?_ (by with_reducible assumption)))⟩
              · go_wp2_with fail
                go_ret2
                exact ⟨ret2 (by unfold nf; rw [Hf.out]; simp [hm1]) (by rw [Hf.out]; simp [hm1]), (by repeat (first | with_reducible exact Below.refl _ _ | with_reducible assumption | with_reducible refine ExtD ?_ | with_reducible refine ExtDN ?_ | with_reducible refine ExtA ?_ | (with_reducible refine ExtR ?_ ?_; (first | omega | (dsimp only; omega) | (simp; done) | (simp; omega))) | (with_reducible refine ExtS ?_ ?_; (first | omega | (dsimp only; omega) | (simp; done) | (simp; omega))) | with_reducible refine Ext.tr ?_ (by with_reducible assumption)))⟩
end Go.Proofs.YtjomgppbialeoaaGreat
