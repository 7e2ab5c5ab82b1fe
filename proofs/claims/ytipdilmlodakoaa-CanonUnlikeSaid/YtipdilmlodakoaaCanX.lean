/-
  The walk of CanonUnlike: two valid states have one record just if they are the same.
-/
import Derived.Test.YtipdilmlodakoaaCanH
import Derived.Test.YtipdilmlodakoaaOrdCq
import Derived.Test.YtipdilmlodakoaaOpenO
namespace Go.Proofs.Ytipdilmlodakoaa
open Go.RowKit
set_option linter.unusedVariables false
set_option linter.unusedSimpArgs false
theorem encR_small {s : St} (h : validB s = true) : (encR (refF s)).length ≤ 420 := by
  have h1 := refF_enc (valid_iff.1 h)
  unfold encR
  rw [if_pos h1]
  exact refF_len (valid_iff.1 h)
theorem canE_bad {s : St} (h : validB s = false) : canE s = ([], 40) := by unfold canE; rw [if_neg (by rw [h]; simp)]
structure CxK (w : World) (s t : St) (A A2 : Option Addr) (c c2 : Nat) (W : World) : Prop where
  p : Blk W w.heap.size 28 (stcells s A c)
  q : Blk W (w.heap.size + 1) 28 (stcells t A2 c2)
  x : Ext w W
theorem CxK.ext {w W W' : World} {s t : St} {A A2 : Option Addr} {c c2 : Nat} (h : CxK w s t A A2 c c2 W) (hx : Ext W W') : CxK w s t A A2 c c2 W' := ⟨BlkE h.p hx, BlkE h.q hx, h.x.tr hx⟩
set_option maxRecDepth 100000 in
set_option maxHeartbeats 8000000 in
theorem canonUnlike_walk (s : St) (A : Option Addr) (c : Nat) (t : St) (A2 : Option Addr) (c2 : Nat) (w : World) (hr : LsRd w A s.lines) (hs : StWf s) (hr2 : LsRd w A2 t.lines) (ht : StWf t) :
    Calls Try.prog 6 #[.agg (stcells s A c), .agg (stcells t A2 c2)] w fun e w' => e = .returned (.bool true) ∧ Ext w w' := by
  obtain ⟨-, -, hw, hl, -⟩ := hs
  obtain ⟨-, -, hw2, hl2, -⟩ := ht
  have KH := Lib.hid head_any
  have KC := Lib.hid fun W (hx : Ext w W) => scopy_any s A c W (hr.ext hx) (by omega)
  have KC2 := Lib.hid fun W (hx : Ext w W) => scopy_any t A2 c2 W (hr2.ext hx) (by omega)
  have KE := Lib.hid fun W A3 c3 (h : LsRd W A3 s.lines) => cenc_any s A3 c3 W h (by omega) (by omega)
  have KE2 := Lib.hid fun W A3 c3 (h : LsRd W A3 t.lines) => cenc_any t A3 c3 W h (by omega) (by omega)
  unfold CopPost at KC KC2
  unfold CanEPost at KE KE2
  by_cases hb : validB s = true ∧ validB t = true
  · obtain ⟨hv, hv2⟩ := hb
    have hlen := encR_small hv
    have hE := canE_ok hv
    have hE2 := canE_ok hv2
    rw [hE] at KE
    rw [hE2] at KE2
    have hinj : encR (refF s) = encR (refF t) ↔ s = t := ⟨fun h => by
      have h1 := canD_enc hv
      have h2 := canD_enc hv2
      rw [h, h2] at h1
      injection h1 with h1
      exact h1.symm, fun h => by rw [h]⟩
    obtain ⟨B, hB⟩ : ∃ B, B = decide (encR (refF s) = encR (refF t)) := ⟨_, rfl⟩
    have KS : Hid (∀ W, Ext w W → Calls Try.prog 12 #[.agg (stcells s A c), .agg (stcells t A2 c2)] W fun e w' => e = .returned (.bool B) ∧ Ext W w') := Lib.hid fun W hx => by
      rw [hB]
      by_cases h : s = t
      · rw [decide_eq_true (hinj.2 h)]
        subst h
        exact ssame_any s A A2 c c2 W (hr.ext hx) (hr2.ext hx) (by omega)
      · rw [decide_eq_false (fun hc => h (hinj.1 hc))]
        exact ssame_no s t A A2 c c2 W (hr.ext hx) (hr2.ext hx) (by omega) (by omega) h
    have KB : Hid (∀ (W : World) A3 A4 c3 c4, Rd W A3 (encR (refF s)).length (u8s (encR (refF s))) → Rd W A4 (encR (refF t)).length (u8s (encR (refF t))) → Calls Try.prog 13 #[.slice A3 (encR (refF s)).length c3, .slice A4 (encR (refF t)).length c4] W fun e w' => e = .returned (.bool B) ∧ Ext W w') := Lib.hid fun W A3 A4 c3 c4 h1 h2 => by
      rw [hB]
      exact same_any A3 A4 _ c3 _ c4 _ _ W h1 h2 (by simp only [maxLen]; omega)
    clear hr hr2 hl hl2 hw hw2 hlen hE hE2 hinj hB hv hv2
    generalize encR (refF s) = R at *
    generalize encR (refF t) = R2 at *
    dsimp only at KE KE2
    generalize R.length = nR at *
    generalize R2.length = nR2 at *
    go_enter Try.func6, Try.ntmps6
    go_upto_region 7 with (first
      | (go_at_call 8; (with_reducible refine (KH.out _).mono ?_); rintro e w1 ⟨rfl, hx1⟩; have b1 : CxK w s t A A2 c c2 w1 := CxK.ext ⟨BlkA (BlkN rfl), BlkN (by simp), ExtA (ExtA (Ext.rfl' w))⟩ hx1)
      | (with_reducible refine wpL_load_row rfl 28 (.tmp 2) rfl _ 28 _ 12 rfl b1.p st_wide (st12_size _ _ _) ?_)
      | (go_at_call 15; (with_reducible refine (KC.out _ b1.x).mono ?_); rintro e w2 ⟨A4, c4, rfl, hx2, ho2⟩; have O2 := Lib.hid ho2; clear ho2; have b2 := b1.ext hx2)
      | (go_at_call 14; (with_reducible refine (KE.out _ _ _ O2.out.rd).mono ?_); rintro e w3 ⟨A5, c5, rfl, hx3, ho3⟩; have O3 := Lib.hid ho3; clear ho3; have b3 := b2.ext hx3)
      | (with_reducible refine wpL_load_row rfl 28 (.tmp 3) rfl _ 28 _ 12 rfl b3.q st_wide (st12_size _ _ _) ?_)
      | (go_at_call 15; (with_reducible refine (KC2.out _ b3.x).mono ?_); rintro e w4 ⟨A6, c6, rfl, hx4, ho4⟩; have O4 := Lib.hid ho4; clear ho4; have b4 := b3.ext hx4)
      | (go_at_call 14; (with_reducible refine (KE2.out _ _ _ O4.out.rd).mono ?_); rintro e w5 ⟨A7, c7, rfl, hx5, ho5⟩; have O5 := Lib.hid ho5; clear ho5; have b5 := b4.ext hx5; have HX35 := Lib.hid (hx4.tr hx5)))
    have HK0 := Lib.hid (b5.ext (ExtD (Ext.rfl' w5)))
    have HR3 := Lib.hid (((rd_own O3.out).ext HX35.out).ext (ExtD (Ext.rfl' w5)))
    have HR5 := Lib.hid ((rd_own O5.out).ext (ExtD (Ext.rfl' w5)))
    unfold stcells at KS
    clear b1 b2 b3 b4 b5 O2 O3 O4 O5 HX35 hx1 hx2 hx3 hx4 hx5
    refine wp_region_noPanic ?_
    refine wp_region_held_drew (S := CxK w s t A A2 c c2) (by kernel_rfl) HK0.out (fun hC => ?_)
    generalize w5.drew = w9 at *
    refine wpAnyH_take (i := 0) (v := ?_) rfl (by kernel_rfl) (by kernel_rfl) (by kernel_rfl) (fun _ _ _ h => h) (Or.inl ⟨by rfl, ?_⟩) hC ?_
    rotate_left 1
    · intro W hSw
      go_simp
      all_goals with_reducible rfl
    try simp only [Act.put, List.setIfInBounds_toArray, List.set_cons_zero, List.set_cons_succ]
    refine wpAnyH_take (i := 1) (v := ?_) rfl (by kernel_rfl) (by kernel_rfl) (by kernel_rfl) (fun _ _ _ h => h) (Or.inl ⟨by rfl, ?_⟩) hC ?_
    rotate_left 1
    · intro W hSw
      go_simp
      all_goals with_reducible rfl
    try simp only [Act.put, List.setIfInBounds_toArray, List.set_cons_zero, List.set_cons_succ]
    refine wpAnyH_take (i := 3) (v := ?_) rfl (by kernel_rfl) (by kernel_rfl) (by kernel_rfl) (fun _ _ _ h => h) (Or.inl ⟨by rfl, ?_⟩) hC ?_
    rotate_left 1
    · intro W hSw
      obtain ⟨⟨d0, d1, d2, d3, d4, d5⟩, d6, d7, d8, d9, d10, d11⟩ := st_cells hSw.p
      go_simp
      all_goals with_reducible rfl
    try simp only [Act.put, List.setIfInBounds_toArray, List.set_cons_zero, List.set_cons_succ]
    refine wpAnyH_take (i := 4) (v := ?_) rfl (by kernel_rfl) (by kernel_rfl) (by kernel_rfl) (fun _ _ _ h => h) (Or.inl ⟨by rfl, ?_⟩) hC ?_
    rotate_left 1
    · intro W hSw
      obtain ⟨⟨d0, d1, d2, d3, d4, d5⟩, d6, d7, d8, d9, d10, d11⟩ := st_cells hSw.q
      go_simp
      all_goals with_reducible rfl
    try simp only [Act.put, List.setIfInBounds_toArray, List.set_cons_zero, List.set_cons_succ]
    refine wpAnyH_ready (rs := [2]) (by kernel_rfl) (by simp) ?_
    refine AllReadyH.cons rfl (fun K hK => ?_) AllReadyH.nil
    go_simp
    refine (KB.out _ _ _ _ _ HR3.out HR5.out).mono ?_
    rintro e w10 ⟨rfl, hx10⟩
    go_wp2_with fail
    refine hK.out _ _ (hC.ext hx10) (fun hC10 => ?_)
    clear hK K
    try simp only [Act.put, List.setIfInBounds_toArray, List.set_cons_zero, List.set_cons_succ]
    refine wpAnyH_ready (rs := [5]) (by kernel_rfl) (by simp) ?_
    refine AllReadyH.cons rfl (fun K hK => ?_) AllReadyH.nil
    go_simp
    refine (KS.out w10 hC10.x).mono ?_
    rintro e w11 ⟨rfl, hx11⟩
    go_wp2_with fail
    refine hK.out _ _ (hC10.ext hx11) (fun hC11 => ?_)
    clear hK K
    try simp only [Act.put, List.setIfInBounds_toArray, List.set_cons_zero, List.set_cons_succ]
    refine wpAnyH_ready (rs := [6]) (by kernel_rfl) (by simp) ?_
    refine AllReadyH.cons rfl (fun K hK => ?_) AllReadyH.nil
    go_simp
    refine hK.out _ _ hC11 (fun _ => ?_)
    clear hK K
    try simp only [Act.put, List.setIfInBounds_toArray, List.set_cons_zero, List.set_cons_succ]
    refine wpAnyH_ready (rs := [7]) (by kernel_rfl) (by simp) ?_
    refine AllReadyH.cons rfl (fun K hK => ?_) AllReadyH.nil
    go_simp
    refine hK.out _ _ hC11 (fun _ => ?_)
    clear hK K
    try simp only [Act.put, List.setIfInBounds_toArray, List.set_cons_zero, List.set_cons_succ]
    refine wpAnyH_done (by kernel_rfl) ?_ _
    refine NoPanic.normal ?_
    go_wp2_with fail
    go_ret
    exact ⟨rfl, hC11.x⟩
  · by_cases hv : validB s = true
    · have hvf : validB t = false := by
        cases h : validB t
        · rfl
        · exact absurd ⟨hv, h⟩ hb
      rw [canE_ok hv] at KE
      rw [canE_bad hvf] at KE2
      clear hr hr2 hl hl2 hw hw2 hb hv hvf
      dsimp only at KE KE2
      go_enter Try.func6, Try.ntmps6
      go_wp2_with (first
        | (go_at_call 8; (with_reducible refine (KH.out _).mono ?_); rintro e w1 ⟨rfl, hx1⟩; have b1 : CxK w s t A A2 c c2 w1 := CxK.ext ⟨BlkA (BlkN rfl), BlkN (by simp), ExtA (ExtA (Ext.rfl' w))⟩ hx1)
        | (with_reducible refine wpL_load_row rfl 28 (.tmp 2) rfl _ 28 _ 12 rfl b1.p st_wide (st12_size _ _ _) ?_)
        | (go_at_call 15; (with_reducible refine (KC.out _ b1.x).mono ?_); rintro e w2 ⟨A4, c4, rfl, hx2, ho2⟩; have O2 := Lib.hid ho2; clear ho2; have b2 := b1.ext hx2)
        | (go_at_call 14; (with_reducible refine (KE.out _ _ _ O2.out.rd).mono ?_); rintro e w3 ⟨A5, c5, rfl, hx3, ho3⟩; clear ho3; have b3 := b2.ext hx3)
        | (with_reducible refine wpL_load_row rfl 28 (.tmp 3) rfl _ 28 _ 12 rfl b3.q st_wide (st12_size _ _ _) ?_)
        | (go_at_call 15; (with_reducible refine (KC2.out _ b3.x).mono ?_); rintro e w4 ⟨A6, c6, rfl, hx4, ho4⟩; have O4 := Lib.hid ho4; clear ho4; have b4 := b3.ext hx4)
        | (go_at_call 14; (with_reducible refine (KE2.out _ _ _ O4.out.rd).mono ?_); rintro e w5 ⟨A7, c7, rfl, hx5, ho5⟩; clear ho5; have b5 := b4.ext hx5))
      go_ret
      exact ⟨rfl, b5.x⟩
    · have hvf : validB s = false := by simpa using hv
      rw [canE_bad hvf] at KE
      clear hr hr2 hl hl2 hw hw2 hb hv hvf
      generalize (canE t).1 = R2 at *
      generalize (canE t).2 = E2 at *
      dsimp only at KE
      go_enter Try.func6, Try.ntmps6
      go_wp2_with (first
        | (go_at_call 8; (with_reducible refine (KH.out _).mono ?_); rintro e w1 ⟨rfl, hx1⟩; have b1 : CxK w s t A A2 c c2 w1 := CxK.ext ⟨BlkA (BlkN rfl), BlkN (by simp), ExtA (ExtA (Ext.rfl' w))⟩ hx1)
        | (with_reducible refine wpL_load_row rfl 28 (.tmp 2) rfl _ 28 _ 12 rfl b1.p st_wide (st12_size _ _ _) ?_)
        | (go_at_call 15; (with_reducible refine (KC.out _ b1.x).mono ?_); rintro e w2 ⟨A4, c4, rfl, hx2, ho2⟩; have O2 := Lib.hid ho2; clear ho2; have b2 := b1.ext hx2)
        | (go_at_call 14; (with_reducible refine (KE.out _ _ _ O2.out.rd).mono ?_); rintro e w3 ⟨A5, c5, rfl, hx3, ho3⟩; clear ho3; have b3 := b2.ext hx3)
        | (with_reducible refine wpL_load_row rfl 28 (.tmp 3) rfl _ 28 _ 12 rfl b3.q st_wide (st12_size _ _ _) ?_)
        | (go_at_call 15; (with_reducible refine (KC2.out _ b3.x).mono ?_); rintro e w4 ⟨A6, c6, rfl, hx4, ho4⟩; have O4 := Lib.hid ho4; clear ho4; have b4 := b3.ext hx4)
        | (go_at_call 14; (with_reducible refine (KE2.out _ _ _ O4.out.rd).mono ?_); rintro e w5 ⟨A7, c7, rfl, hx5, ho5⟩; clear ho5; have b5 := b4.ext hx5))
      go_ret
      exact ⟨rfl, b5.x⟩
end Go.Proofs.Ytipdilmlodakoaa
