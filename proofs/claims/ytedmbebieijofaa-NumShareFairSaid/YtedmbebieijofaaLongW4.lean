/-
  The walks of the long numbers' Plus and Fits.
-/
import Derived.Test.YtedmbebieijofaaLongW2
import Derived.Test.YtedmbebieijofaaLongW3
import Derived.Test.YtedmbebieijofaaLongQ
namespace Go.Proofs.Ytedmbebieijofaa
open Go.RowKit
set_option linter.unusedVariables false
set_option linter.unusedSimpArgs false
abbrev plusV (a b : Bool) (m n : Nat) : Value := longV (plusB a b m n) (plusN a b m n)
theorem plusV_eq {a b : Bool} {m n : Nat} (h : (a == b) = true) : plusV a b m n = longV a (m + n) := by
  have : a = b := by simpa using h
  simp [plusV, plusB, plusN, this]
theorem plusV_ge {a b : Bool} {m n : Nat} (h : (a == b) = false) (hc : n ≤ m) : plusV a b m n = longV a (m - n) := by
  have : ¬ a = b := by simpa using h
  simp [plusV, plusB, plusN, this, hc]
theorem plusV_lt {a b : Bool} {m n : Nat} (h : (a == b) = false) (hc : ¬ n ≤ m) : plusV a b m n = longV b (n - m) := by
  have : ¬ a = b := by simpa using h
  simp [plusV, plusB, plusN, this, hc]
theorem cmpI_ge {m n : Nat} (h : n ≤ m) : 0 ≤ cmpI m n := by unfold cmpI; split <;> (try split) <;> omega
theorem cmpI_neg {m n : Nat} (h : ¬ n ≤ m) : cmpI m n < 0 := by rw [cmpI_lt (by omega)]; decide
set_option maxHeartbeats 1000000 in
theorem plus_long (a b : Bool) (m n : Nat) (w : World) (hm : m < 65536 ^ 16) (hn : n < 65536 ^ 16) :
    Calls Try.prog 17 #[longV a m, longV b n] w fun e w' => e = .returned (plusV a b m n) ∧ Ext w w' := by
  have Hm := Lib.hid hm
  have Hn := Lib.hid hn
  clear hm hn
  have g0 := arr_get0 a (dg m)
  have g1 := arr_get0 b (dg n)
  have z2 := arr_zero false
  obtain ⟨W, HW⟩ : ∃ W, Hid (W = ((w.alloc (.cells (arrA a (dg m)) 33)).alloc (.cells (arrA b (dg n)) 33)).alloc (.cells (arrA false fun _ => 0) 33)) := ⟨_, rfl⟩
  have b0 : Blk W w.heap.size 33 (arrA a (dg m)) := by rw [HW.out]; exact (by repeat (first | with_reducible assumption | (with_reducible refine BlkN ?_; (first | rfl | (first | omega | (dsimp only; omega) | (simp; done) | (simp; omega)))) | with_reducible refine BlkD ?_ | with_reducible refine BlkDN ?_ | with_reducible refine BlkA ?_ | with_reducible refine BlkE ?_ (by with_reducible assumption) | with_reducible refine BlkS ?_ | (with_reducible refine BlkF ?_ ?_; (first | omega | (dsimp only; omega) | (simp; done) | (simp; omega))) | (with_reducible refine BlkR ?_ ?_; (first | omega | (dsimp only; omega) | (simp; done) | (simp; omega)))))
  have b1 : Blk W (w.heap.size + 1) 33 (arrA b (dg n)) := by rw [HW.out]; exact (by repeat (first | with_reducible assumption | (with_reducible refine BlkN ?_; (first | rfl | (first | omega | (dsimp only; omega) | (simp; done) | (simp; omega)))) | with_reducible refine BlkD ?_ | with_reducible refine BlkDN ?_ | with_reducible refine BlkA ?_ | with_reducible refine BlkE ?_ (by with_reducible assumption) | with_reducible refine BlkS ?_ | (with_reducible refine BlkF ?_ ?_; (first | omega | (dsimp only; omega) | (simp; done) | (simp; omega))) | (with_reducible refine BlkR ?_ ?_; (first | omega | (dsimp only; omega) | (simp; done) | (simp; omega)))))
  have b2 : Blk W (w.heap.size + 1 + 1) 33 (arrA false fun _ => 0) := by rw [HW.out]; exact (by repeat (first | with_reducible assumption | (with_reducible refine BlkN ?_; (first | rfl | (first | omega | (dsimp only; omega) | (simp; done) | (simp; omega)))) | with_reducible refine BlkD ?_ | with_reducible refine BlkDN ?_ | with_reducible refine BlkA ?_ | with_reducible refine BlkE ?_ (by with_reducible assumption) | with_reducible refine BlkS ?_ | (with_reducible refine BlkF ?_ ?_; (first | omega | (dsimp only; omega) | (simp; done) | (simp; omega))) | (with_reducible refine BlkR ?_ ?_; (first | omega | (dsimp only; omega) | (simp; done) | (simp; omega)))))
  have hxW : Ext w W := by rw [HW.out]; exact (by repeat (first | with_reducible exact Below.refl _ _ | with_reducible assumption | with_reducible refine ExtD ?_ | with_reducible refine ExtDN ?_ | with_reducible refine ExtA ?_ | (with_reducible refine ExtR ?_ ?_; (first | omega | (dsimp only; omega) | (simp; done) | (simp; omega))) | (with_reducible refine ExtS ?_ ?_; (first | omega | (dsimp only; omega) | (simp; done) | (simp; omega))) | with_reducible refine Ext.tr ?_ (by with_reducible assumption)))
  have c0 := (b0.cell 0).trans g0
  have c1 := (b1.cell 0).trans g1
  cases hab : (a == b)
  · by_cases hc : n ≤ m
    · have hge := cmpI_ge hc
      have E := Lib.hid (plusV_ge hab hc)
      rw [E.out]
      unfold longV
      go_enter Try.func17, Try.ntmps17
      go_upto_region 1 with fail
      rw [← HW.out]
      go_wp2_with (first
        | (go_at_call 37; go_must (with_reducible refine (cmp_any a b m n _ Hm.out Hn.out).mono ?_); rintro e w1 ⟨rfl, hx1⟩; have B0 := BlkE b0 hx1; have B1 := BlkE b1 hx1; have B2 := BlkE b2 hx1)
        | (go_at_call 38; go_must (with_reducible refine (down_any a b m n _ hc).mono ?_); rintro e w2 ⟨rfl, hx2⟩; have B3 := BlkE B2 hx2)
        | (with_reducible refine wpL_load_row rfl 33 (.tmp 2) rfl _ 33 (arrA a (dg m)) 17 rfl b0 long_wide (arr_size _ _) ?_) | (with_reducible refine wpL_load_row rfl 33 (.tmp 3) rfl _ 33 (arrA b (dg n)) 17 rfl b1 long_wide (arr_size _ _) ?_) | (with_reducible refine wpL_load_row rfl 33 (.tmp 2) rfl _ 33 (arrA a (dg m)) 17 rfl B0 long_wide (arr_size _ _) ?_) | (with_reducible refine wpL_load_row rfl 33 (.tmp 3) rfl _ 33 (arrA b (dg n)) 17 rfl B1 long_wide (arr_size _ _) ?_)
        | (with_reducible refine wpL_store_row rfl 33 (.tmp 4) (.tmp 19) rfl _ 33 (arrA false fun _ => 0) (arrA a (dg (m - n))) rfl rfl B3 (by rw [arr_size, arr_size]) (arr_one _ _) 17 long_wide (arr_size _ _) ?_))
      exact bodyPost_ret (v := .agg (arrA a (dg (m - n)))) (res_row rfl _ _ _ 33 _ 17 rfl B3.setRow_ long_wide (arr_size _ _)) rfl ⟨rfl, (by repeat (first | with_reducible exact Below.refl _ _ | with_reducible assumption | with_reducible refine ExtD ?_ | with_reducible refine ExtDN ?_ | with_reducible refine ExtA ?_ | (with_reducible refine ExtR ?_ ?_; (first | omega | (dsimp only; omega) | (simp; done) | (simp; omega))) | (with_reducible refine ExtS ?_ ?_; (first | omega | (dsimp only; omega) | (simp; done) | (simp; omega))) | with_reducible refine Ext.tr ?_ (by with_reducible assumption)))⟩
    · have hge := cmpI_neg hc
      have E := Lib.hid (plusV_lt hab hc)
      rw [E.out]
      unfold longV
      go_enter Try.func17, Try.ntmps17
      go_upto_region 1 with fail
      rw [← HW.out]
      go_wp2_with (first
        | (go_at_call 37; go_must (with_reducible refine (cmp_any a b m n _ Hm.out Hn.out).mono ?_); rintro e w1 ⟨rfl, hx1⟩; have B0 := BlkE b0 hx1; have B1 := BlkE b1 hx1; have B2 := BlkE b2 hx1)
        | (go_at_call 38; go_must (with_reducible refine (down_any b a n m _ (by omega)).mono ?_); rintro e w2 ⟨rfl, hx2⟩; have B3 := BlkE B2 hx2)
        | (with_reducible refine wpL_load_row rfl 33 (.tmp 2) rfl _ 33 (arrA a (dg m)) 17 rfl b0 long_wide (arr_size _ _) ?_) | (with_reducible refine wpL_load_row rfl 33 (.tmp 3) rfl _ 33 (arrA b (dg n)) 17 rfl b1 long_wide (arr_size _ _) ?_) | (with_reducible refine wpL_load_row rfl 33 (.tmp 2) rfl _ 33 (arrA a (dg m)) 17 rfl B0 long_wide (arr_size _ _) ?_) | (with_reducible refine wpL_load_row rfl 33 (.tmp 3) rfl _ 33 (arrA b (dg n)) 17 rfl B1 long_wide (arr_size _ _) ?_)
        | (with_reducible refine wpL_store_row rfl 33 (.tmp 4) (.tmp 22) rfl _ 33 (arrA false fun _ => 0) (arrA b (dg (n - m))) rfl rfl B3 (by rw [arr_size, arr_size]) (arr_one _ _) 17 long_wide (arr_size _ _) ?_))
      exact bodyPost_ret (v := .agg (arrA b (dg (n - m)))) (res_row rfl _ _ _ 33 _ 17 rfl B3.setRow_ long_wide (arr_size _ _)) rfl ⟨rfl, (by repeat (first | with_reducible exact Below.refl _ _ | with_reducible assumption | with_reducible refine ExtD ?_ | with_reducible refine ExtDN ?_ | with_reducible refine ExtA ?_ | (with_reducible refine ExtR ?_ ?_; (first | omega | (dsimp only; omega) | (simp; done) | (simp; omega))) | (with_reducible refine ExtS ?_ ?_; (first | omega | (dsimp only; omega) | (simp; done) | (simp; omega))) | with_reducible refine Ext.tr ?_ (by with_reducible assumption)))⟩
  · have E := Lib.hid (plusV_eq (m := m) (n := n) hab)
    rw [E.out]
    unfold longV
    go_enter Try.func17, Try.ntmps17
    go_upto_region 1 with fail
    rw [← HW.out]
    go_wp2_with (first
      | (go_at_call 36; go_must (with_reducible refine (up_any a b m n _).mono ?_); rintro e w2 ⟨rfl, hx2⟩; have B3 := BlkE b2 hx2)
      | (with_reducible refine wpL_load_row rfl 33 (.tmp 2) rfl _ 33 (arrA a (dg m)) 17 rfl b0 long_wide (arr_size _ _) ?_) | (with_reducible refine wpL_load_row rfl 33 (.tmp 3) rfl _ 33 (arrA b (dg n)) 17 rfl b1 long_wide (arr_size _ _) ?_)
      | (with_reducible refine wpL_store_row rfl 33 (.tmp 4) (.tmp 12) rfl _ 33 (arrA false fun _ => 0) (arrA a (dg (m + n))) rfl rfl B3 (by rw [arr_size, arr_size]) (arr_one _ _) 17 long_wide (arr_size _ _) ?_))
    exact bodyPost_ret (v := .agg (arrA a (dg (m + n)))) (res_row rfl _ _ _ 33 _ 17 rfl B3.setRow_ long_wide (arr_size _ _)) rfl ⟨rfl, (by repeat (first | with_reducible exact Below.refl _ _ | with_reducible assumption | with_reducible refine ExtD ?_ | with_reducible refine ExtDN ?_ | with_reducible refine ExtA ?_ | (with_reducible refine ExtR ?_ ?_; (first | omega | (dsimp only; omega) | (simp; done) | (simp; omega))) | (with_reducible refine ExtS ?_ ?_; (first | omega | (dsimp only; omega) | (simp; done) | (simp; omega))) | with_reducible refine Ext.tr ?_ (by with_reducible assumption)))⟩
end Go.Proofs.Ytedmbebieijofaa
