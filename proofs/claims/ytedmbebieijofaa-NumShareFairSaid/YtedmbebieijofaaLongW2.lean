/-
  The walks of the long numbers' down.
-/
import Derived.Test.YtedmbebieijofaaLongW1
namespace Go.Proofs.Ytedmbebieijofaa
open Go.RowKit
set_option linter.unusedVariables false
set_option linter.unusedSimpArgs false
def DownR (w : World) (a b : Bool) (m n : Nat) (c i : Value) (wr : World) : Prop :=
  ∃ k : Nat, k ≤ 16 ∧ i = .int .i64 k ∧ c = .int .u64 (borrow m n k : Nat) ∧ Ext w wr ∧ Blk wr w.heap.size 33 (arrA a (dg m)) ∧ Blk wr (w.heap.size + 1) 33 (arrA b (dg n)) ∧
    Blk wr (w.heap.size + 1 + 1) 33 (arrA false (fun _ => 0)) ∧ Blk wr (w.heap.size + 1 + 1 + 1) 33 (arrA a (upto (m - n) k))
set_option maxHeartbeats 1000000 in
theorem down_any (a b : Bool) (m n : Nat) (w : World) (hnm : n ≤ m) :
    Calls Try.prog 38 #[longV a m, longV b n] w fun e w' => e = .returned (longV a (m - n)) ∧ Ext w w' := by
  have g0 := arr_get0 a (dg m)
  have z2 := arr_zero false
  have s0 := arr_set0 false a (fun _ => 0)
  unfold longV
  go_enter Try.func38, Try.ntmps38
  go_wp2_with (with_reducible refine wpL_store_new rfl 33 (.tmp 5) (.tmp 11) rfl (w.heap.size + 1 + 1 + 1) 33 (arrA false fun _ => 0) (arrA a fun _ => 0) rfl rfl (by simp) (by rw [arr_size, arr_size]) (arr_one _ _) 17 long_wide (arr_size _ _) ?_)
  go_loopw [6, 7] (fun c i wr => DownR w a b m n c i wr) (fun _ i _ => 16 - (intOf i).toNat)
  case atStart => exact ⟨0, by omega, rfl, by rw [borrow_zero]; rfl, (by repeat (first | with_reducible exact Below.refl _ _ | with_reducible assumption | with_reducible refine ExtD ?_ | with_reducible refine ExtDN ?_ | with_reducible refine ExtA ?_ | (with_reducible refine ExtR ?_ ?_; (first | omega | (dsimp only; omega) | (simp; done) | (simp; omega))) | (with_reducible refine ExtS ?_ ?_; (first | omega | (dsimp only; omega) | (simp; done) | (simp; omega))) | with_reducible refine Ext.tr ?_ (by with_reducible assumption))), (by repeat (first | with_reducible assumption | (with_reducible refine BlkN ?_; (first | rfl | (first | omega | (dsimp only; omega) | (simp; done) | (simp; omega)))) | with_reducible refine BlkD ?_ | with_reducible refine BlkDN ?_ | with_reducible refine BlkA ?_ | with_reducible refine BlkE ?_ (by with_reducible assumption) | with_reducible refine BlkS ?_ | (with_reducible refine BlkF ?_ ?_; (first | omega | (dsimp only; omega) | (simp; done) | (simp; omega))) | (with_reducible refine BlkR ?_ ?_; (first | omega | (dsimp only; omega) | (simp; done) | (simp; omega))))), (by repeat (first | with_reducible assumption | (with_reducible refine BlkN ?_; (first | rfl | (first | omega | (dsimp only; omega) | (simp; done) | (simp; omega)))) | with_reducible refine BlkD ?_ | with_reducible refine BlkDN ?_ | with_reducible refine BlkA ?_ | with_reducible refine BlkE ?_ (by with_reducible assumption) | with_reducible refine BlkS ?_ | (with_reducible refine BlkF ?_ ?_; (first | omega | (dsimp only; omega) | (simp; done) | (simp; omega))) | (with_reducible refine BlkR ?_ ?_; (first | omega | (dsimp only; omega) | (simp; done) | (simp; omega))))), (by repeat (first | with_reducible assumption | (with_reducible refine BlkN ?_; (first | rfl | (first | omega | (dsimp only; omega) | (simp; done) | (simp; omega)))) | with_reducible refine BlkD ?_ | with_reducible refine BlkDN ?_ | with_reducible refine BlkA ?_ | with_reducible refine BlkE ?_ (by with_reducible assumption) | with_reducible refine BlkS ?_ | (with_reducible refine BlkF ?_ ?_; (first | omega | (dsimp only; omega) | (simp; done) | (simp; omega))) | (with_reducible refine BlkR ?_ ?_; (first | omega | (dsimp only; omega) | (simp; done) | (simp; omega))))), by rw [← upto_zero]; exact (by repeat (first | with_reducible assumption | (with_reducible refine BlkN ?_; (first | rfl | (first | omega | (dsimp only; omega) | (simp; done) | (simp; omega)))) | with_reducible refine BlkD ?_ | with_reducible refine BlkDN ?_ | with_reducible refine BlkA ?_ | with_reducible refine BlkE ?_ (by with_reducible assumption) | with_reducible refine BlkS ?_ | (with_reducible refine BlkF ?_ ?_; (first | omega | (dsimp only; omega) | (simp; done) | (simp; omega))) | (with_reducible refine BlkR ?_ ?_; (first | omega | (dsimp only; omega) | (simp; done) | (simp; omega)))))⟩
  case round =>
    obtain ⟨k, hk, rfl, rfl, hx, b0, b1, b2, b3⟩ := hrel
    by_cases hlt : k < 16
    · have c0 := (b0.cell (1 + k)).trans (arr_get _ _ k hlt)
      have c1 := (b1.cell (1 + k)).trans (arr_get _ _ k hlt)
      have c3 := (b3.cell (1 + k)).trans (arr_get _ _ k hlt)
      have f3 := b3.frozen (1 + k)
      have d0 := dgI_bd m k
      have d1 := dgI_bd n k
      have d2 := borrow_le m n k
      have w1 : IntKind.u64.wrap ((dg m k : Int) + 65536) = (dg m k : Int) + 65536 := by rw [IntKind.wrap_u64]; omega
      have w2 : IntKind.u64.wrap ((dg m k : Int) + 65536 - (dg n k : Int)) = (dg m k : Int) + 65536 - (dg n k : Int) := by rw [IntKind.wrap_u64]; omega
      have w3 : IntKind.u64.wrap ((dg m k : Int) + 65536 - (dg n k : Int) - (borrow m n k : Nat)) = (dg m k : Int) + 65536 - (dg n k : Int) - (borrow m n k : Nat) := by rw [IntKind.wrap_u64]; omega
      go_wp2_with fail
      go_quiet (fail)
      clear w1 w2 w3
      have e3 : ((dg m k : Int) + 65536 - (dg n k : Int) - (borrow m n k : Nat)) % 65536 = ((dg (m - n) k : Nat) : Int) := by rw [dg_sub m n k hnm]; omega
      have B3 := Lib.hid (borrow_next m n k)
      go_wp2_with fail
      go_roundw
      case rel => exact ⟨k + 1, by omega, by go_num, by rw [B3.out]; go_num, (by repeat (first | with_reducible exact Below.refl _ _ | with_reducible assumption | with_reducible refine ExtD ?_ | with_reducible refine ExtDN ?_ | with_reducible refine ExtA ?_ | (with_reducible refine ExtR ?_ ?_; (first | omega | (dsimp only; omega) | (simp; done) | (simp; omega))) | (with_reducible refine ExtS ?_ ?_; (first | omega | (dsimp only; omega) | (simp; done) | (simp; omega))) | with_reducible refine Ext.tr ?_ (by with_reducible assumption))), (by repeat (first | with_reducible assumption | (with_reducible refine BlkN ?_; (first | rfl | (first | omega | (dsimp only; omega) | (simp; done) | (simp; omega)))) | with_reducible refine BlkD ?_ | with_reducible refine BlkDN ?_ | with_reducible refine BlkA ?_ | with_reducible refine BlkE ?_ (by with_reducible assumption) | with_reducible refine BlkS ?_ | (with_reducible refine BlkF ?_ ?_; (first | omega | (dsimp only; omega) | (simp; done) | (simp; omega))) | (with_reducible refine BlkR ?_ ?_; (first | omega | (dsimp only; omega) | (simp; done) | (simp; omega))))), (by repeat (first | with_reducible assumption | (with_reducible refine BlkN ?_; (first | rfl | (first | omega | (dsimp only; omega) | (simp; done) | (simp; omega)))) | with_reducible refine BlkD ?_ | with_reducible refine BlkDN ?_ | with_reducible refine BlkA ?_ | with_reducible refine BlkE ?_ (by with_reducible assumption) | with_reducible refine BlkS ?_ | (with_reducible refine BlkF ?_ ?_; (first | omega | (dsimp only; omega) | (simp; done) | (simp; omega))) | (with_reducible refine BlkR ?_ ?_; (first | omega | (dsimp only; omega) | (simp; done) | (simp; omega))))), (by repeat (first | with_reducible assumption | (with_reducible refine BlkN ?_; (first | rfl | (first | omega | (dsimp only; omega) | (simp; done) | (simp; omega)))) | with_reducible refine BlkD ?_ | with_reducible refine BlkDN ?_ | with_reducible refine BlkA ?_ | with_reducible refine BlkE ?_ (by with_reducible assumption) | with_reducible refine BlkS ?_ | (with_reducible refine BlkF ?_ ?_; (first | omega | (dsimp only; omega) | (simp; done) | (simp; omega))) | (with_reducible refine BlkR ?_ ?_; (first | omega | (dsimp only; omega) | (simp; done) | (simp; omega))))), by rw [← upto_next, ← arr_set _ _ _ _ hlt]; exact (by repeat (first | with_reducible assumption | (with_reducible refine BlkN ?_; (first | rfl | (first | omega | (dsimp only; omega) | (simp; done) | (simp; omega)))) | with_reducible refine BlkD ?_ | with_reducible refine BlkDN ?_ | with_reducible refine BlkA ?_ | with_reducible refine BlkE ?_ (by with_reducible assumption) | with_reducible refine BlkS ?_ | (with_reducible refine BlkF ?_ ?_; (first | omega | (dsimp only; omega) | (simp; done) | (simp; omega))) | (with_reducible refine BlkR ?_ ?_; (first | omega | (dsimp only; omega) | (simp; done) | (simp; omega)))))⟩
      case measure => simp [intOf]; omega
    · have hk16 : k = 16 := by omega
      subst hk16
      rw [upto_all] at b3
      go_wp2_with (first
        | with_reducible refine wpL_load_row rfl 33 (.tmp 5) rfl _ 33 (arrA a (dg (m - n))) 17 rfl b3 long_wide (arr_size _ _) ?_
        | with_reducible refine wpL_store_row rfl 33 (.tmp 4) (.tmp 36) rfl _ 33 (arrA false fun _ => 0) (arrA a (dg (m - n))) rfl rfl b2 (by rw [arr_size, arr_size]) (arr_one _ _) 17 long_wide (arr_size _ _) ?_)
      exact bodyPost_ret (v := .agg (arrA a (dg (m - n)))) (res_row rfl _ _ _ 33 _ 17 rfl b2.setRow_ long_wide (arr_size _ _)) rfl ⟨rfl, (by repeat (first | with_reducible exact Below.refl _ _ | with_reducible assumption | with_reducible refine ExtD ?_ | with_reducible refine ExtDN ?_ | with_reducible refine ExtA ?_ | (with_reducible refine ExtR ?_ ?_; (first | omega | (dsimp only; omega) | (simp; done) | (simp; omega))) | (with_reducible refine ExtS ?_ ?_; (first | omega | (dsimp only; omega) | (simp; done) | (simp; omega))) | with_reducible refine Ext.tr ?_ (by with_reducible assumption)))⟩
end Go.Proofs.Ytedmbebieijofaa
