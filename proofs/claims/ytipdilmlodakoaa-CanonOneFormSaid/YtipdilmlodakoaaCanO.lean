/-
  The walk of CanonOneForm: what is read is valid, and is what would be written.
-/
import Derived.Test.YtipdilmlodakoaaCanH
namespace Go.Proofs.Ytipdilmlodakoaa
open Go.RowKit
set_option linter.unusedVariables false
set_option linter.unusedSimpArgs false
theorem st12_one (s : St) (A : Option Addr) (c : Nat) : ∀ v ∈ (stcells s A c).toList, v.oneCell' = true := s12_one _ _ _ _ _ _ _ _ _ _ _ _ _ _
set_option maxRecDepth 100000 in
set_option maxHeartbeats 4000000 in
theorem canonOneForm_walk (A : Option Addr) (n c : Nat) (l : List UInt8) (w : World) (hr : Rd w A n (u8s l)) (hnc : n ≤ c) (hn : n ≤ 140737488351232) :
    Calls Try.prog 5 #[.slice A n c] w fun e w' => e = .returned (.bool true) ∧ Ext w w' := by
  have hll : l.length = n := by have := hr.1; rw [u8s_len] at this; exact this
  have KH := Lib.hid head_any
  have KC := Lib.hid fun W (hx : Ext w W) => copy_any A n c l W (hr.ext hx) (by omega)
  have KD : Hid (∀ (W : World) A2 c2, Rd W A2 l.length (u8s l) → l.length ≤ c2 → Calls Try.prog 11 #[.slice A2 l.length c2] W (CanDPost W l)) := Lib.hid fun W A2 c2 h h2 => cdec_any A2 _ c2 l W h h2 (by simp only [maxLen]; omega)
  have HR := Lib.hid fun W (hx : Ext w W) => hr.ext hx
  have Hn := Lib.hid hn
  unfold NewB at KC
  unfold CanDPost at KD
  rw [hll] at KC KD
  by_cases hE : (canD l).2 = 0
  · obtain ⟨hv, hrec⟩ := canD_inv hE
    have hE2 := canE_ok hv
    have hok := valid_iff.1 hv
    have hsl := hok.len
    have hsw := who_len hok
    have hsw2 : (canD l).1.who.size ≤ 16 := by rw [Array.length_toList] at hsw; exact hsw
    rw [hE] at KD
    have KE : Hid (∀ W A2 c2, LsRd W A2 (canD l).1.lines → Calls Try.prog 14 #[.agg (stcells (canD l).1 A2 c2)] W fun e w' => ∃ A1 c1, e = .returned (.tuple #[.slice A1 n c1, .int .i64 0]) ∧ Ext W w' ∧ w'.ownsRow W.heap.size 5 1 (.slice A1 n c1) n (u8s l)) := Lib.hid fun W A2 c2 h => by
      have := cenc_any (canD l).1 A2 c2 W h (by omega) (by omega)
      unfold CanEPost at this
      rw [hE2, hrec] at this
      dsimp only at this
      rw [hll] at this
      exact this
    have KV : Hid (∀ W A2 c2, LsRd W A2 (canD l).1.lines → Calls Try.prog 16 #[.agg (stcells (canD l).1 A2 c2)] W fun e w' => e = .returned (.bool true) ∧ Ext W w') := Lib.hid fun W A2 c2 h => by
      have := valid_any (canD l).1 A2 c2 W h (by omega) (by omega)
      rw [hv] at this
      exact this
    have KS := Lib.hid fun W A1 c1 (h : Rd W A1 n (u8s l)) (h2 : Rd W A n (u8s l)) => same_any A1 A n c1 n c l l W h h2 (by simp only [maxLen]; omega)
    clear hr hn hll hE hv hrec hE2 hok hsl hsw hsw2
    generalize (canD l).1 = s at *
    rw [decide_eq_true rfl] at KS
    go_enter Try.func5, Try.ntmps5
    go_wp2_with (first
      | (go_at_call 8; (with_reducible refine (KH.out _).mono ?_); rintro e w1 ⟨rfl, hx1⟩)
      | (go_at_call 9; (with_reducible refine (KC.out _ hx1).mono ?_); rintro e w2 ⟨A2, c2, rfl, hx2, ho2⟩; have O2 := Lib.hid ho2; clear ho2)
      | (go_at_call 11; (with_reducible refine (KD.out _ _ _ (rd_own O2.out) (own_ncap O2.out)).mono ?_); rintro e w3 ⟨A3, c3, rfl, hx3, ho3⟩; have O3 := Lib.hid ho3; clear ho3; have hX3 : Ext w w3 := (by repeat (first | with_reducible exact Below.refl _ _ | with_reducible assumption | with_reducible refine ExtD ?_ | with_reducible refine ExtDN ?_ | with_reducible refine ExtA ?_ | (with_reducible refine ExtR ?_ ?_; (first | omega | (dsimp only; omega) | (simp; done) | (simp; omega))) | (with_reducible refine ExtS ?_ ?_; (first | omega | (dsimp only; omega) | (simp; done) | (simp; omega))) | with_reducible refine Ext.tr ?_ (by with_reducible assumption))))
      | (change wpList _ _ _ (⟨none, .store _ (.tmp 3) (.tmp 13), _, _, _, _⟩ :: _) _ _; refine wpL_store_new rfl 28 (.tmp 3) (.tmp 13) rfl _ 28 _ _ rfl rfl (by first | rfl | simp) rfl (st12_one _ _ _) 12 st_wide (st12_size _ _ _) ?_)
      | (with_reducible refine wpL_load_row rfl 28 (.tmp 3) rfl _ 28 _ 12 rfl (BlkN rfl) st_wide (st12_size _ _ _) ?_)
      | (go_at_call 14; (with_reducible refine (KE.out _ _ _ (O3.out.rd.ext (ExtA (Ext.rfl' _)))).mono ?_); rintro e w4 ⟨A4, c4, rfl, hx4, ho4⟩; have O4 := Lib.hid ho4; clear ho4; have b4 : Blk w4 w3.heap.size 28 (stcells s A3 c3) := BlkE (BlkN rfl) hx4)
      | (with_reducible refine wpL_load_row_w (by kernel_rfl) 28 (.tmp 3) rfl _ 28 _ 12 rfl b4 st_wide (st12_size _ _ _) ?_)
      | (go_at_call 16; (with_reducible refine (KV.out _ _ _ ((O3.out.rd.ext (ExtA (Ext.rfl' _))).ext hx4)).mono ?_); rintro e w5 ⟨rfl, hx5⟩; have hX5 : Ext w w5 := (by repeat (first | with_reducible exact Below.refl _ _ | with_reducible assumption | with_reducible refine ExtD ?_ | with_reducible refine ExtDN ?_ | with_reducible refine ExtA ?_ | (with_reducible refine ExtR ?_ ?_; (first | omega | (dsimp only; omega) | (simp; done) | (simp; omega))) | (with_reducible refine ExtS ?_ ?_; (first | omega | (dsimp only; omega) | (simp; done) | (simp; omega))) | with_reducible refine Ext.tr ?_ (by with_reducible assumption))))
      | (go_at_call 13; (with_reducible refine (KS.out _ _ _ ((rd_own O4.out).ext hx5) (HR.out _ hX5)).mono ?_); rintro e w6 ⟨rfl, hx6⟩))
    go_ret
    exact ⟨rfl, (by repeat (first | with_reducible exact Below.refl _ _ | with_reducible assumption | with_reducible refine ExtD ?_ | with_reducible refine ExtDN ?_ | with_reducible refine ExtA ?_ | (with_reducible refine ExtR ?_ ?_; (first | omega | (dsimp only; omega) | (simp; done) | (simp; omega))) | (with_reducible refine ExtS ?_ ?_; (first | omega | (dsimp only; omega) | (simp; done) | (simp; omega))) | with_reducible refine Ext.tr ?_ (by with_reducible assumption)))⟩
  · have hz := canD_bad hE
    have tE : (((canD l).2 : Int) != 0) = true := by simp; exact hE
    rw [hz] at KD
    have KS : Hid (∀ W A2 c2, Calls Try.prog 12 #[.agg (stcells zeroSt A2 c2), .agg (stcells zeroSt none 0)] W fun e w' => e = .returned (.bool true) ∧ Ext W w') := Lib.hid fun W A2 c2 => ssame_any zeroSt A2 none c2 0 W (RdN.nil_ _ _ _) (RdN.nil_ _ _ _) (by decide)
    clear hr hn hll hE hz
    generalize (canD l).2 = E at *
    unfold stcells zeroSt at KD KS
    dsimp only [List.length_nil] at KD KS
    go_enter Try.func5, Try.ntmps5
    go_wp2_with (first
      | (go_at_call 8; (with_reducible refine (KH.out _).mono ?_); rintro e w1 ⟨rfl, hx1⟩)
      | (go_at_call 9; (with_reducible refine (KC.out _ hx1).mono ?_); rintro e w2 ⟨A2, c2, rfl, hx2, ho2⟩; have O2 := Lib.hid ho2; clear ho2)
      | (go_at_call 11; (with_reducible refine (KD.out _ _ _ (rd_own O2.out) (own_ncap O2.out)).mono ?_); rintro e w3 ⟨A3, c3, rfl, hx3, ho3⟩; clear ho3)
      | (go_at_call 12; (with_reducible refine (KS.out _ _ _).mono ?_); rintro e w4 ⟨rfl, hx4⟩))
    go_ret
    exact ⟨rfl, (by repeat (first | with_reducible exact Below.refl _ _ | with_reducible assumption | with_reducible refine ExtD ?_ | with_reducible refine ExtDN ?_ | with_reducible refine ExtA ?_ | (with_reducible refine ExtR ?_ ?_; (first | omega | (dsimp only; omega) | (simp; done) | (simp; omega))) | (with_reducible refine ExtS ?_ ?_; (first | omega | (dsimp only; omega) | (simp; done) | (simp; omega))) | with_reducible refine Ext.tr ?_ (by with_reducible assumption)))⟩
end Go.Proofs.Ytipdilmlodakoaa
