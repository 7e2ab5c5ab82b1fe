/-
  The walk of CanonBack: there and back.
-/
import Derived.Test.YtipdilmlodakoaaCanH
import Derived.Test.YtipdilmlodakoaaOpenO
namespace Go.Proofs.Ytipdilmlodakoaa
open Go.RowKit
set_option linter.unusedVariables false
set_option linter.unusedSimpArgs false
theorem st12_one (s : St) (A : Option Addr) (c : Nat) : ∀ v ∈ (stcells s A c).toList, v.oneCell' = true := s12_one _ _ _ _ _ _ _ _ _ _ _ _ _ _
theorem canE_bad {s : St} (h : validB s = false) : canE s = ([], 40) := by unfold canE; rw [if_neg (by rw [h]; simp)]
theorem encR_small {s : St} (h : validB s = true) : (encR (refF s)).length ≤ 420 := by
  have h1 := refF_enc (valid_iff.1 h)
  unfold encR
  rw [if_pos h1]
  exact refF_len (valid_iff.1 h)
set_option maxRecDepth 100000 in
set_option maxHeartbeats 4000000 in
theorem canonBack_walk (s : St) (A : Option Addr) (c : Nat) (w : World) (hr : LsRd w A s.lines) (hs : StWf s) :
    Calls Try.prog 4 #[.agg (stcells s A c)] w fun e w' => e = .returned (.bool true) ∧ Ext w w' := by
  obtain ⟨-, -, hw, hl, -⟩ := hs
  have KH := Lib.hid head_any
  have KC := Lib.hid fun W (hx : Ext w W) => scopy_any s A c W (hr.ext hx) (by omega)
  have KE := Lib.hid fun W A2 c2 (h : OwnLs W W.heap.size A2 s.lines c2 ∨ LsRd W A2 s.lines) => cenc_any s A2 c2 W (h.elim (fun h => h.rd) id) (by omega) (by omega)
  have KV := Lib.hid fun W A2 c2 (h : LsRd W A2 s.lines) => valid_any s A2 c2 W h (by omega) (by omega)
  have KS := Lib.hid fun W A2 c2 (h : LsRd W A2 s.lines) (h2 : LsRd W A s.lines) => ssame_any s A2 A c2 c W h h2 (by omega)
  have HR := Lib.hid fun W (hx : Ext w W) => hr.ext hx
  unfold CopPost at KC
  unfold CanEPost at KE
  clear hr hl hw
  by_cases hv : validB s = true
  · have hE := canE_ok hv
    have hD := canD_enc hv
    have hlen := encR_small hv
    rw [hE] at KE
    rw [hv] at KV
    have KD : Hid (∀ (W : World) A2 c2, Rd W A2 (encR (refF s)).length (u8s (encR (refF s))) → (encR (refF s)).length ≤ c2 → Calls Try.prog 11 #[.slice A2 (encR (refF s)).length c2] W fun e w' => ∃ A3 c3, e = .returned (.tuple #[.agg (stcells s A3 c3), .int .i64 0]) ∧ Ext W w' ∧ OwnLs w' W.heap.size A3 s.lines c3) := Lib.hid fun W A2 c2 h h2 => by
      have := cdec_any A2 _ c2 (encR (refF s)) W h h2 (by simp only [maxLen]; omega)
      unfold CanDPost at this
      rw [hD] at this
      exact this
    clear hv hE hD hlen
    generalize encR (refF s) = R at *
    dsimp only at KE
    generalize R.length = nR at *
    go_enter Try.func4, Try.ntmps4
    go_wp2_with (first
      | (go_at_call 8; (with_reducible refine (KH.out _).mono ?_); rintro e w1 ⟨rfl, hx1⟩; have b1 : Blk w1 w.heap.size 28 (stcells s A c) := BlkE (BlkN rfl) hx1; have hX1 : Ext w w1 := (by repeat (first | with_reducible exact Below.refl _ _ | with_reducible assumption | with_reducible refine ExtD ?_ | with_reducible refine ExtDN ?_ | with_reducible refine ExtA ?_ | (with_reducible refine ExtR ?_ ?_; (first | omega | (dsimp only; omega) | (simp; done) | (simp; omega))) | (with_reducible refine ExtS ?_ ?_; (first | omega | (dsimp only; omega) | (simp; done) | (simp; omega))) | with_reducible refine Ext.tr ?_ (by with_reducible assumption))))
      | (with_reducible refine wpL_load_row rfl 28 (.tmp 1) rfl _ 28 _ 12 rfl b1 st_wide (st12_size _ _ _) ?_)
      | (go_at_call 15; (with_reducible refine (KC.out _ hX1).mono ?_); rintro e w2 ⟨A2, c2, rfl, hx2, ho2⟩; have O2 := Lib.hid ho2; clear ho2; have b2 := BlkE b1 hx2)
      | (go_at_call 14; (with_reducible refine (KE.out _ _ _ (.inr O2.out.rd)).mono ?_); rintro e w3 ⟨A3, c3, rfl, hx3, ho3⟩; have O3 := Lib.hid ho3; clear ho3; have b3 := BlkE b2 hx3; have hX3 : Ext w w3 := (by repeat (first | with_reducible exact Below.refl _ _ | with_reducible assumption | with_reducible refine ExtD ?_ | with_reducible refine ExtDN ?_ | with_reducible refine ExtA ?_ | (with_reducible refine ExtR ?_ ?_; (first | omega | (dsimp only; omega) | (simp; done) | (simp; omega))) | (with_reducible refine ExtS ?_ ?_; (first | omega | (dsimp only; omega) | (simp; done) | (simp; omega))) | with_reducible refine Ext.tr ?_ (by with_reducible assumption))))
      | (with_reducible refine wpL_load_row rfl 28 (.tmp 1) rfl _ 28 _ 12 rfl b3 st_wide (st12_size _ _ _) ?_)
      | (go_at_call 15; (with_reducible refine (KC.out _ hX3).mono ?_); rintro e w4 ⟨A4, c4, rfl, hx4, ho4⟩; have O4 := Lib.hid ho4; clear ho4; have b4 := BlkE b3 hx4)
      | (go_at_call 16; (with_reducible refine (KV.out _ _ _ O4.out.rd).mono ?_); rintro e w5 ⟨rfl, hx5⟩; have b5 := BlkE b4 hx5; have hx35 : Ext w3 w5 := (by repeat (first | with_reducible exact Below.refl _ _ | with_reducible assumption | with_reducible refine ExtD ?_ | with_reducible refine ExtDN ?_ | with_reducible refine ExtA ?_ | (with_reducible refine ExtR ?_ ?_; (first | omega | (dsimp only; omega) | (simp; done) | (simp; omega))) | (with_reducible refine ExtS ?_ ?_; (first | omega | (dsimp only; omega) | (simp; done) | (simp; omega))) | with_reducible refine Ext.tr ?_ (by with_reducible assumption))))
      | (go_at_call 11; (with_reducible refine (KD.out _ _ _ ((rd_own O3.out).ext hx35) (own_ncap O3.out)).mono ?_); rintro e w6 ⟨A6, c6, rfl, hx6, ho6⟩; have O6 := Lib.hid ho6; clear ho6; have b6 := BlkE b5 hx6; have hX6 : Ext w w6 := (by repeat (first | with_reducible exact Below.refl _ _ | with_reducible assumption | with_reducible refine ExtD ?_ | with_reducible refine ExtDN ?_ | with_reducible refine ExtA ?_ | (with_reducible refine ExtR ?_ ?_; (first | omega | (dsimp only; omega) | (simp; done) | (simp; omega))) | (with_reducible refine ExtS ?_ ?_; (first | omega | (dsimp only; omega) | (simp; done) | (simp; omega))) | with_reducible refine Ext.tr ?_ (by with_reducible assumption))))
      | (change wpList _ _ _ (⟨none, .store _ (.tmp 5) (.tmp 33), _, _, _, _⟩ :: _) _ _; refine wpL_store_new rfl 28 (.tmp 5) (.tmp 33) rfl _ 28 _ _ rfl rfl (by first | rfl | simp) rfl (st12_one _ _ _) 12 st_wide (st12_size _ _ _) ?_)
      | (with_reducible refine wpL_load_row_w (by kernel_rfl) 28 (.tmp 5) rfl _ 28 _ 12 rfl (BlkN rfl) st_wide (st12_size _ _ _) ?_)
      | (with_reducible refine wpL_load_row_w (by kernel_rfl) 28 (.tmp 1) rfl _ 28 _ 12 rfl (BlkA b6) st_wide (st12_size _ _ _) ?_)
      | (go_at_call 12; (with_reducible refine (KS.out _ _ _ (O6.out.rd.ext (ExtA (Ext.rfl' _))) ((HR.out _ hX6).ext (ExtA (Ext.rfl' _)))).mono ?_); rintro e w7 ⟨rfl, hx7⟩))
    go_ret
    exact ⟨rfl, (by repeat (first | with_reducible exact Below.refl _ _ | with_reducible assumption | with_reducible refine ExtD ?_ | with_reducible refine ExtDN ?_ | with_reducible refine ExtA ?_ | (with_reducible refine ExtR ?_ ?_; (first | omega | (dsimp only; omega) | (simp; done) | (simp; omega))) | (with_reducible refine ExtS ?_ ?_; (first | omega | (dsimp only; omega) | (simp; done) | (simp; omega))) | with_reducible refine Ext.tr ?_ (by with_reducible assumption)))⟩
  · have hvf : validB s = false := by simpa using hv
    rw [canE_bad hvf] at KE
    rw [hvf] at KV
    clear hv hvf
    dsimp only [List.length_nil] at KE
    go_enter Try.func4, Try.ntmps4
    go_wp2_with (first
      | (go_at_call 8; (with_reducible refine (KH.out _).mono ?_); rintro e w1 ⟨rfl, hx1⟩; have b1 : Blk w1 w.heap.size 28 (stcells s A c) := BlkE (BlkN rfl) hx1; have hX1 : Ext w w1 := (by repeat (first | with_reducible exact Below.refl _ _ | with_reducible assumption | with_reducible refine ExtD ?_ | with_reducible refine ExtDN ?_ | with_reducible refine ExtA ?_ | (with_reducible refine ExtR ?_ ?_; (first | omega | (dsimp only; omega) | (simp; done) | (simp; omega))) | (with_reducible refine ExtS ?_ ?_; (first | omega | (dsimp only; omega) | (simp; done) | (simp; omega))) | with_reducible refine Ext.tr ?_ (by with_reducible assumption))))
      | (with_reducible refine wpL_load_row rfl 28 (.tmp 1) rfl _ 28 _ 12 rfl b1 st_wide (st12_size _ _ _) ?_)
      | (go_at_call 15; (with_reducible refine (KC.out _ hX1).mono ?_); rintro e w2 ⟨A2, c2, rfl, hx2, ho2⟩; have O2 := Lib.hid ho2; clear ho2; have b2 := BlkE b1 hx2)
      | (go_at_call 14; (with_reducible refine (KE.out _ _ _ (.inr O2.out.rd)).mono ?_); rintro e w3 ⟨A3, c3, rfl, hx3, ho3⟩; clear ho3; have b3 := BlkE b2 hx3; have hX3 : Ext w w3 := (by repeat (first | with_reducible exact Below.refl _ _ | with_reducible assumption | with_reducible refine ExtD ?_ | with_reducible refine ExtDN ?_ | with_reducible refine ExtA ?_ | (with_reducible refine ExtR ?_ ?_; (first | omega | (dsimp only; omega) | (simp; done) | (simp; omega))) | (with_reducible refine ExtS ?_ ?_; (first | omega | (dsimp only; omega) | (simp; done) | (simp; omega))) | with_reducible refine Ext.tr ?_ (by with_reducible assumption))))
      | (with_reducible refine wpL_load_row rfl 28 (.tmp 1) rfl _ 28 _ 12 rfl b3 st_wide (st12_size _ _ _) ?_)
      | (go_at_call 15; (with_reducible refine (KC.out _ hX3).mono ?_); rintro e w4 ⟨A4, c4, rfl, hx4, ho4⟩; have O4 := Lib.hid ho4; clear ho4; have b4 := BlkE b3 hx4)
      | (go_at_call 16; (with_reducible refine (KV.out _ _ _ O4.out.rd).mono ?_); rintro e w5 ⟨rfl, hx5⟩))
    go_ret
    exact ⟨rfl, (by repeat (first | with_reducible exact Below.refl _ _ | with_reducible assumption | with_reducible refine ExtD ?_ | with_reducible refine ExtDN ?_ | with_reducible refine ExtA ?_ | (with_reducible refine ExtR ?_ ?_; (first | omega | (dsimp only; omega) | (simp; done) | (simp; omega))) | (with_reducible refine ExtS ?_ ?_; (first | omega | (dsimp only; omega) | (simp; done) | (simp; omega))) | with_reducible refine Ext.tr ?_ (by with_reducible assumption)))⟩
end Go.Proofs.Ytipdilmlodakoaa
