/-
  The walk of the laws' head: one record that the document fixes.
-/
import Derived.Test.YtipdilmlodakoaaCanE
import Derived.Test.YtipdilmlodakoaaCanD
import Derived.Test.YtipdilmlodakoaaOrdCp
import Derived.Test.YtipdilmlodakoaaBytesX
namespace Go.Proofs.Ytipdilmlodakoaa
open Go.RowKit
set_option linter.unusedVariables false
set_option linter.unusedSimpArgs false
theorem st12_one (s : St) (A : Option Addr) (c : Nat) : ∀ v ∈ (stcells s A c).toList, v.oneCell' = true := s12_one _ _ _ _ _ _ _ _ _ _ _ _ _ _
def hd7 : St := ⟨7, 0, 0, 0, 0, [], 0, 0, 0, 0, 0, ⟨#[]⟩⟩
theorem hd7_valid : validB hd7 = true := by kernel_rfl
theorem hd7_fs : refF hd7 = [⟨1, false, 7, []⟩] := by kernel_rfl
theorem hd7_rec : encR (refF hd7) = [2, 7] := by
  have h1 := refF_enc (valid_iff.1 hd7_valid)
  unfold encR
  rw [if_pos h1, hd7_fs]
  have : one ⟨1, false, 7, []⟩ = venc 2 ++ venc 7 := rfl
  rw [encB_cons, encB_nil, this, venc_lo (by omega), venc_lo (by omega)]
  rfl
theorem hd7_E : canE hd7 = ([2, 7], 0) := by rw [canE_ok hd7_valid, hd7_rec]
theorem hd7_D : canD [2, 7] = (hd7, 0) := by rw [← hd7_rec]; exact canD_enc hd7_valid
theorem hd_enc (w : World) : Calls Try.prog 14 #[.agg #[.int .i64 7, .int .i64 0, .int .i64 0, .int .i64 0, .int .i64 0, .slice none 0 0, .int .i64 0, .int .i64 0, .int .i64 0, .int .i64 0, .int .i64 0, .string ⟨#[]⟩]] w fun e w' =>
    ∃ A1 c1, e = .returned (.tuple #[.slice A1 2 c1, .int .i64 0]) ∧ Ext w w' ∧ Rd w' A1 2 (u8s [2, 7]) := by
  refine (cenc_any hd7 none 0 w (RdN.nil_ _ _ _) (by decide) (by decide)).mono ?_
  unfold CanEPost
  rw [hd7_E]
  rintro e w' ⟨A1, c1, rfl, hx, ho⟩
  exact ⟨A1, c1, rfl, hx, rd_own ho⟩
theorem hd_dec (A : Option Addr) (c : Nat) (hc : 2 ≤ c) (w : World) (hr : Rd w A 2 (u8s [2, 7])) : Calls Try.prog 11 #[.slice A 2 c] w fun e w' =>
    ∃ A1 c1, e = .returned (.tuple #[.agg #[.int .i64 7, .int .i64 0, .int .i64 0, .int .i64 0, .int .i64 0, .slice A1 0 c1, .int .i64 0, .int .i64 0, .int .i64 0, .int .i64 0, .int .i64 0, .string ⟨#[]⟩], .int .i64 0]) ∧ Ext w w' := by
  refine (cdec_any A 2 c [2, 7] w hr hc (by decide)).mono ?_
  unfold CanDPost
  rw [hd7_D]
  rintro e w' ⟨A1, c1, rfl, hx, ho⟩
  exact ⟨A1, c1, rfl, hx⟩
theorem hd_size (A : Option Addr) (c : Nat) (w : World) : Calls Try.prog 19 #[.agg #[.int .i64 7, .int .i64 0, .int .i64 0, .int .i64 0, .int .i64 0, .slice A 0 c, .int .i64 0, .int .i64 0, .int .i64 0, .int .i64 0, .int .i64 0, .string ⟨#[]⟩]] w fun e w' =>
    e = .returned (.int .i64 2) ∧ Ext w w' := by
  refine (csize_any hd7 A c w (RdN.nil_ _ _ _) (by decide) (by decide)).mono ?_
  rw [hd7_E]
  exact fun _ _ h => h
set_option maxRecDepth 100000 in
set_option maxHeartbeats 4000000 in
theorem head_any (w : World) : Calls Try.prog 8 #[] w fun e w' => e = .returned (.bool true) ∧ Ext w w' := by
  have K1 := Lib.hid hd_enc
  have K2 := Lib.hid hd_dec
  have K3 := Lib.hid hd_size
  have K4 : Hid (∀ (W : World) A B c c2, Rd W A 2 (u8s [2, 7]) → Rd W B 2 (u8s [2, 7]) → Calls Try.prog 13 #[.slice A 2 c, .slice B 2 c2] W fun e w' => e = .returned (.bool true) ∧ Ext W w') := Lib.hid fun W A B c c2 h1 h2 => by
    refine (same_any A B 2 c 2 c2 [2, 7] [2, 7] W h1 h2 (by decide)).mono ?_
    rintro e w' ⟨rfl, hx⟩
    exact ⟨by simp, hx⟩
  have KR : Hid (∀ (W : World) (g : Nat), W.heap.size = g → Rd (W.alloc (.cells #[.int .u8 2, .int .u8 7] 5)) (some ⟨g, 0, none⟩) 2 (u8s [2, 7])) := Lib.hid fun W g hg => by subst hg; exact rd_new W #[.int .u8 2, .int .u8 7] 5
  go_enter Try.func8, Try.ntmps8
  go_wp2_with (first
    | (go_at_call 14; (with_reducible refine (K1.out _).mono ?_); rintro e w1 ⟨A1, c1, rfl, hx1, hr1⟩)
    | (go_at_call 11; (with_reducible refine (K2.out _ _ (by omega) _ (KR.out _ _ (by simp))).mono ?_); rintro e w2 ⟨A2, c2, rfl, hx2⟩; have HX : Hid (∀ ob ob2, Ext w1 ((w2.alloc ob).alloc ob2)) := Lib.hid fun _ _ => ExtA (ExtA ((ExtA (Ext.rfl' w1)).tr hx2)))
    | (go_at_call 13; (with_reducible refine (K4.out _ _ _ _ _ (hr1.ext (HX.out _ _)) (KR.out _ _ (by simp))).mono ?_); rintro e w3 ⟨rfl, hx3⟩; have b3 : Blk w3 w2.heap.size 28 #[.int .i64 7, .int .i64 0, .int .i64 0, .int .i64 0, .int .i64 0, .slice A2 0 c2, .int .i64 0, .int .i64 0, .int .i64 0, .int .i64 0, .int .i64 0, .string ⟨#[]⟩] := BlkE (BlkA (BlkN rfl)) hx3; have d0 : w3.cell? ⟨w2.heap.size, 0, none⟩ = some (.int .i64 7) := b3.cell 0)
    | (with_reducible refine wpL_load_row_w (by kernel_rfl) 28 (.tmp 3) rfl _ 28 _ 12 rfl b3 st_wide (st_size' _ _ _ _ _ _ _ _ _ _ _ _ _ _) ?_)
    | (go_at_call 19; (with_reducible refine (K3.out _ _ _).mono ?_); rintro e w4 ⟨rfl, hx4⟩))
  go_ret
  exact ⟨rfl, (by repeat (first | with_reducible exact Below.refl _ _ | with_reducible assumption | with_reducible refine ExtD ?_ | with_reducible refine ExtDN ?_ | with_reducible refine ExtA ?_ | (with_reducible refine ExtR ?_ ?_; (first | omega | (dsimp only; omega) | (simp; done) | (simp; omega))) | (with_reducible refine ExtS ?_ ?_; (first | omega | (dsimp only; omega) | (simp; done) | (simp; omega))) | with_reducible refine Ext.tr ?_ (by with_reducible assumption)))⟩
end Go.Proofs.Ytipdilmlodakoaa
