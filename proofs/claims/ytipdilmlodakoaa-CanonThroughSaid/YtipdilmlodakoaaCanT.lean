/-
  The walk of CanonThrough. (Written by wip/tools/gen_thr.py.)
-/
import Derived.Test.YtipdilmlodakoaaCanE
import Derived.Test.YtipdilmlodakoaaOrdLawA
import Derived.Test.YtipdilmlodakoaaOpenO
namespace Go.Proofs.Ytipdilmlodakoaa
open Go.RowKit
set_option linter.unusedVariables false
set_option linter.unusedSimpArgs false
theorem stc12_one (s : St) (A : Option Addr) (c : Nat) : ∀ v ∈ (stcells s A c).toList, v.oneCell' = true := s12_one _ _ _ _ _ _ _ _ _ _ _ _ _ _
theorem encR_few {s : St} (h : validB s = true) : (encR (refF s)).length ≤ 420 := by
  have h1 := refF_enc (valid_iff.1 h)
  unfold encR
  rw [if_pos h1]
  exact refF_len (valid_iff.1 h)
theorem thr_valid {id : Int} (h1 : 1 ≤ id) (h2 : id ≤ 1099511627776) : VOk (noSt id) :=
  ⟨⟨h1, h2⟩, by simp [noSt], by simp [noSt], by simp [noSt], by simp [noSt], rfl, by simp [noSt], by simp [noSt], by simp [noSt], by simp [noSt], rfl, by simp [noSt, due, net, taxOf], rfl, rfl⟩
set_option maxRecDepth 100000 in
set_option maxHeartbeats 40000000 in
theorem canonThrough_walk (id : Int) (B : Option Addr) (cb : Nat) (es : List Ev) (cut : Int) (w : World) (hid : I64' id) (hre : EsRd w B es) (hel : es.length * 96 ≤ 140737488351232) (hes : ∀ e ∈ es, EvWf e) (hcb : es.length ≤ cb) (hcut : I64' cut) :
    Calls Try.prog 7 #[.int .i64 id, .slice B es.length cb, .int .i64 cut] w fun e w' => e = .returned (.bool true) ∧ Ext w w' := by
  have K0 := Lib.hid chead_any
  by_cases hi1 : id < 1
  · have t1 : decide (id < 1) = true := by simpa using hi1
    go_enter Try.func7, Try.ntmps7
    go_wp2_with (go_at_call 8; (with_reducible refine (K0.out _).mono ?_); rintro e w1 ⟨rfl, hx1⟩)
    go_ret
    exact ⟨rfl, (by repeat (first | with_reducible exact Below.refl _ _ | with_reducible assumption | with_reducible refine ExtD ?_ | with_reducible refine ExtDN ?_ | with_reducible refine ExtA ?_ | (with_reducible refine ExtR ?_ ?_; (first | omega | (dsimp only; omega) | (simp; done) | (simp; omega))) | (with_reducible refine ExtS ?_ ?_; (first | omega | (dsimp only; omega) | (simp; done) | (simp; omega))) | with_reducible refine Ext.tr ?_ (by with_reducible assumption)))⟩
  by_cases hi2 : 1099511627776 < id
  · have t1 : decide (id < 1) = false := by simpa using hi1
    have t2 : decide (1099511627776 < id) = true := by simpa using hi2
    go_enter Try.func7, Try.ntmps7
    go_wp2_with (go_at_call 8; (with_reducible refine (K0.out _).mono ?_); rintro e w1 ⟨rfl, hx1⟩)
    go_ret
    exact ⟨rfl, (by repeat (first | with_reducible exact Below.refl _ _ | with_reducible assumption | with_reducible refine ExtD ?_ | with_reducible refine ExtDN ?_ | with_reducible refine ExtA ?_ | (with_reducible refine ExtR ?_ ?_; (first | omega | (dsimp only; omega) | (simp; done) | (simp; omega))) | (with_reducible refine ExtS ?_ ?_; (first | omega | (dsimp only; omega) | (simp; done) | (simp; omega))) | with_reducible refine Ext.tr ?_ (by with_reducible assumption)))⟩
  have t1 : decide (id < 1) = false := by simpa using hi1
  have t2 : decide (1099511627776 < id) = false := by simpa using hi2
  have hv0 : VOk (noSt id) := thr_valid (by omega) (by omega)
  have hss : StSm (noSt id) := sm_no id
  have hes1 : ∀ e ∈ es, EvSm e := fun e he => ev_sm (hes e he)
  have K1 := Lib.hid fun W => empty_any id W
  have KF0 := Lib.hid fun A2 c2 W (h2 : EsRd W A2 es) => fold_any (noSt id) es none A2 0 c2 W (RdN.nil_ _ _ _) h2 hss hes1 (by omega)
  have KS0 := Lib.hid fun A1 c1 A2 c2 W (h : LsRd W A1 (fold (noSt id) es).lines) (h2 : LsRd W A2 (fold (noSt id) es).lines) => ssame_any (fold (noSt id) es) A1 A2 c1 c2 W h h2 (by have := (sm_fold es hss).1; omega)
  have HF : Hid (∀ k, fold (fold (noSt id) (es.take k)) (es.drop k) = fold (noSt id) es) := Lib.hid fun k => by rw [← fold_app, List.take_append_drop]
  have HV : Hid (∀ k, validB (fold (noSt id) (es.take k)) = true) := Lib.hid fun k => valid_iff.2 (valid_fold _ hv0)
  have HSm : Hid (∀ k, StSm (fold (noSt id) (es.take k))) := Lib.hid fun k => sm_fold _ hss
  have HK1 : Hid (∀ k A2 c2 W, EsRd W A2 (es.take k) → Calls Try.prog 17 #[.agg (stcells (noSt id) none 0), .slice A2 (es.take k).length c2] W (FoPost W (fold (noSt id) (es.take k)))) := Lib.hid fun k A2 c2 W h2 => fold_any (noSt id) (es.take k) none A2 0 c2 W (RdN.nil_ _ _ _) h2 hss (fun e he => hes1 e (List.mem_of_mem_take he)) (by rw [List.length_take]; omega)
  have HK2 : Hid (∀ k A1 c1 A2 c2 W, LsRd W A1 (fold (noSt id) (es.take k)).lines → EsRd W A2 (es.drop k) → Calls Try.prog 17 #[.agg (stcells (fold (noSt id) (es.take k)) A1 c1), .slice A2 (es.drop k).length c2] W (FoPost W (fold (fold (noSt id) (es.take k)) (es.drop k)))) := Lib.hid fun k A1 c1 A2 c2 W h h2 => fold_any (fold (noSt id) (es.take k)) (es.drop k) A1 A2 c1 c2 W h h2 (sm_fold _ hss) (fun e he => hes1 e (List.mem_of_mem_drop he)) (by rw [List.length_drop]; omega)
  have H1s := Lib.hid (evCells_one es)
  have Hc1 := Lib.hid fun k => evCells_one (es.take k)
  have Hc2 := Lib.hid fun k => evCells_one (es.drop k)
  have Htk : Hid (∀ k, k ≤ es.length → (es.take k).length = k) := Lib.hid fun k h => by rw [List.length_take]; omega
  have Hdr : Hid (∀ k, (es.drop k).length = es.length - k) := Lib.hid fun k => List.length_drop
  obtain ⟨n, hnn⟩ : ∃ n, n = es.length := ⟨_, rfl⟩
  have hre0 : RdN w 10 B n (evCells es) := by rw [hnn]; exact hre
  rw [← hnn] at hel hcb KF0 ⊢
  have Hn := Lib.hid hnn
  unfold FoPost at KF0 HK1 HK2
  clear hes hes1 hss hnn hv0 hi1 hi2
  go_enter Try.func7, Try.ntmps7
  go_upto_region 3 with (go_at_call 8; (with_reducible refine (K0.out _).mono ?_); rintro e w1 ⟨rfl, hx1⟩)
  have hX1 : Ext w w1 := hx1
  clear t1 t2
  go_cut [31] (fun v31 wc => CutB w1 n cut v31 wc)
  case first =>
    by_cases hc0 : cut < 0
    · go_wp2_with fail
      go_meet
      case rel => exact ⟨true, rfl, .inl rfl, (by repeat (first | with_reducible exact Below.refl _ _ | with_reducible assumption | with_reducible refine ExtD ?_ | with_reducible refine ExtDN ?_ | with_reducible refine ExtA ?_ | (with_reducible refine ExtR ?_ ?_; (first | omega | (dsimp only; omega) | (simp; done) | (simp; omega))) | (with_reducible refine ExtS ?_ ?_; (first | omega | (dsimp only; omega) | (simp; done) | (simp; omega))) | with_reducible refine Ext.tr ?_ (by with_reducible assumption)))⟩
    · by_cases hc1 : (n : Int) < cut
      · go_wp2_with fail
        go_meet
        case rel => exact ⟨true, by simp, .inl rfl, (by repeat (first | with_reducible exact Below.refl _ _ | with_reducible assumption | with_reducible refine ExtD ?_ | with_reducible refine ExtDN ?_ | with_reducible refine ExtA ?_ | (with_reducible refine ExtR ?_ ?_; (first | omega | (dsimp only; omega) | (simp; done) | (simp; omega))) | (with_reducible refine ExtS ?_ ?_; (first | omega | (dsimp only; omega) | (simp; done) | (simp; omega))) | with_reducible refine Ext.tr ?_ (by with_reducible assumption)))⟩
      · go_wp2_with fail
        go_meet
        case rel => exact ⟨false, by simp, .inr (by omega), (by repeat (first | with_reducible exact Below.refl _ _ | with_reducible assumption | with_reducible refine ExtD ?_ | with_reducible refine ExtDN ?_ | with_reducible refine ExtA ?_ | (with_reducible refine ExtR ?_ ?_; (first | omega | (dsimp only; omega) | (simp; done) | (simp; omega))) | (with_reducible refine ExtS ?_ ?_; (first | omega | (dsimp only; omega) | (simp; done) | (simp; omega))) | with_reducible refine Ext.tr ?_ (by with_reducible assumption)))⟩
  case rest =>
  obtain ⟨b, rfl, hbb, hxb⟩ := hcut
  have hX1 := Ext.tr hX1 hxb
  clear hxb hx1
  go_upto_if 31 with fail
  go_cut [2] (fun v2 wc2 => CutR wc n v2 wc2)
  case first =>
    cases b with
    | true =>
      go_wp2_with fail
      go_meet
      case rel => exact ⟨n, by omega, rfl, (by repeat (first | with_reducible exact Below.refl _ _ | with_reducible assumption | with_reducible refine ExtD ?_ | with_reducible refine ExtDN ?_ | with_reducible refine ExtA ?_ | (with_reducible refine ExtR ?_ ?_; (first | omega | (dsimp only; omega) | (simp; done) | (simp; omega))) | (with_reducible refine ExtS ?_ ?_; (first | omega | (dsimp only; omega) | (simp; done) | (simp; omega))) | with_reducible refine Ext.tr ?_ (by with_reducible assumption)))⟩
    | false =>
      go_wp2_with fail
      go_meet
      case rel => exact ⟨cut.toNat, by simp at hbb; omega, by rw [Int.toNat_of_nonneg (by simp at hbb; omega)], (by repeat (first | with_reducible exact Below.refl _ _ | with_reducible assumption | with_reducible refine ExtD ?_ | with_reducible refine ExtDN ?_ | with_reducible refine ExtA ?_ | (with_reducible refine ExtR ?_ ?_; (first | omega | (dsimp only; omega) | (simp; done) | (simp; omega))) | (with_reducible refine ExtS ?_ ?_; (first | omega | (dsimp only; omega) | (simp; done) | (simp; omega))) | with_reducible refine Ext.tr ?_ (by with_reducible assumption)))⟩
  case rest =>
    obtain ⟨k, hk, rfl, hxc⟩ := hcut
    have hX0 : Ext w wc := Ext.tr hX1 hxc
    clear hX1 hxc
    obtain ⟨Bk, ck, hrun, hrd⟩ := slice_ev_h B n cb k hk hcb
    obtain ⟨Bl, cl, hrun2, hrd2⟩ := slice_ev_l B n cb k hk hcb
    have Hrun := Lib.hid hrun
    have Hrun2 := Lib.hid hrun2
    have Hk := Lib.hid fun W (h : EsRd W B es) => hrd W es Hn.out.symm h
    have Hl := Lib.hid fun W (h : EsRd W B es) => hrd2 W es Hn.out.symm h
    clear hrun hrun2 hrd hrd2
    have htk := Htk.out k (by rw [← Hn.out]; exact hk)
    have hdr := Hdr.out k
    rw [← Hn.out] at hdr
    have KF1 := HK1.out k
    have KF2 := HK2.out k
    rw [htk] at KF1
    rw [hdr, HF.out k] at KF2
    have HtkL : Hid (∀ W A6, RdN W 10 A6 k (evCells (es.take k)) → EsRd W A6 (es.take k)) := Lib.hid fun W A6 h => by unfold EsRd; rw [htk]; exact h
    have HdrL : Hid (∀ W A6, RdN W 10 A6 (n - k) (evCells (es.drop k)) → EsRd W A6 (es.drop k)) := Lib.hid fun W A6 h => by unfold EsRd; rw [hdr]; exact h
    have H1k := Lib.hid (Hc1.out k)
    have H1d := Lib.hid (Hc2.out k)
    have KF := Lib.hid KF1
    have KG := Lib.hid KF2
    have hv := HV.out k
    obtain ⟨hsm1, hsm2⟩ := HSm.out k
    clear KF1 KF2 htk hdr HK1 HK2 HF Hc1 Hc2 Htk Hdr HV HSm
    generalize fold (noSt id) (es.take k) = sK at *
    generalize fold (noSt id) es = sF at *
    have KE := Lib.hid fun W A2 c2 (h : LsRd W A2 sK.lines) => cenc_any sK A2 c2 W h (by omega) (by omega)
    unfold CanEPost at KE
    have hE := canE_ok hv
    have hD := canD_enc hv
    have hlen := encR_few hv
    rw [hE] at KE
    have KD : Hid (∀ (W : World) A2 c2, Rd W A2 (encR (refF sK)).length (u8s (encR (refF sK))) → (encR (refF sK)).length ≤ c2 → Calls Try.prog 11 #[.slice A2 (encR (refF sK)).length c2] W fun e w' => ∃ A3 c3, e = .returned (.tuple #[.agg (stcells sK A3 c3), .int .i64 0]) ∧ Ext W w' ∧ OwnLs w' W.heap.size A3 sK.lines c3) := Lib.hid fun W A2 c2 h h2 => by
      have := cdec_any A2 _ c2 (encR (refF sK)) W h h2 (by simp only [maxLen]; omega)
      unfold CanDPost at this
      rw [hD] at this
      exact this
    clear hv hE hD hlen hsm1 hsm2
    generalize encR (refF sK) = R at *
    dsimp only at KE
    generalize R.length = nR at *
    go_upto_region 5 with fail
    go_cut [7] (fun v7 wc2 => CutS wc sK v7 wc2)
    case first =>
      have hX0' : ∀ w', Ext wc w' → Ext w w' := fun w' h => Ext.tr hX0 h
      refine wp_region_held_drew (S := fun w' => Ext wc w') (by kernel_rfl) (ExtD (Ext.rfl' _)) (fun hS => ?_)
      refine takeD (some 34) (i := 0) (v := .int .i64 id) rfl rfl (by kernel_rfl) (by kernel_rfl) (by kernel_rfl) (fun _ _ _ h => h) (Or.inl ⟨by kernel_rfl, fun _ _ => rfl⟩) hS ?_; (try simp only [Act.put, List.setIfInBounds_toArray, List.set_cons_zero, List.set_cons_succ])
      refine takeD (some 37) (i := 3) (v := .slice B n cb) rfl rfl (by kernel_rfl) (by kernel_rfl) (by kernel_rfl) (fun _ _ _ h => h) (Or.inl ⟨by kernel_rfl, fun _ _ => rfl⟩) hS ?_; (try simp only [Act.put, List.setIfInBounds_toArray, List.set_cons_zero, List.set_cons_succ])
      refine takeD (some 38) (i := 4) (v := .int .i64 (k : Nat)) rfl rfl (by kernel_rfl) (by kernel_rfl) (by kernel_rfl) (fun _ _ _ h => h) (Or.inl ⟨by kernel_rfl, fun _ _ => rfl⟩) hS ?_; (try simp only [Act.put, List.setIfInBounds_toArray, List.set_cons_zero, List.set_cons_succ])
      refine takeD (some 39) (i := 5) (v := .slice Bk k ck) rfl rfl (by kernel_rfl) (by kernel_rfl) (by kernel_rfl) (fun _ _ _ h => h) (yields_slice 43 elem_evE (by kernel_rfl) (.tmp 37) none (some (.tmp 38)) rfl _ _ _ _ rfl rfl rfl Hrun.out) hS ?_; (try simp only [Act.put, List.setIfInBounds_toArray, List.set_cons_zero, List.set_cons_succ])
      refine wpAnyH_ready (rs := [1, 2, 8]) (by kernel_rfl) (by simp) (AllReadyH.cons rfl (fun K hK => ?_) (AllReadyH.cons rfl (fun K hK => ?_) (AllReadyH.cons rfl (fun K hK => ?_) AllReadyH.nil)))
      · (refine step_callR rfl (some 35) rfl 18 _ Try.func18 (by kernel_rfl) (by kernel_rfl) _ _ rfl #[.int .i64 id] (by simp [Act.eval, Act.put]) _ (K1.out _) ?_; rintro e w' ⟨rfl, hx⟩; refine ⟨_, rfl, ?_⟩;  refine hK.out _ _ (Ext.tr hS hx) ?_; intro hS; clear hx hK; (try simp only [Act.put, List.setIfInBounds_toArray, List.set_cons_zero, List.set_cons_succ]))
        refine wpAnyH_ready (rs := [2, 8]) (by kernel_rfl) (by simp) (AllReadyH.cons rfl (fun K hK => ?_) (AllReadyH.cons rfl (fun K hK => ?_) AllReadyH.nil))
        · (refine step_new0 rfl (some 36) rfl 43 77 rfl new_ev ?_; intro g2 w' hg hx b2; have hg2 := Nat.le_trans (Ext.size hS) hg;  clear hg; refine hK.out _ _ (Ext.tr hS hx) ?_; intro hS; clear hx hK; (try simp only [Act.put, List.setIfInBounds_toArray, List.set_cons_zero, List.set_cons_succ]))
          refine wpAnyH_ready (rs := [6, 8]) (by kernel_rfl) (by simp) (AllReadyH.cons rfl (fun K hK => ?_) (AllReadyH.cons rfl (fun K hK => ?_) AllReadyH.nil))
          · (have h2 := own_new0 (s := 10) b2 hg2; refine step_append_rd rfl (some 40) rfl (.tmp 36) (.tmp 39) 43 rfl wc.heap.size 77 _ 10 96 Try.underlying43 el_ev (.slice (some ⟨g2, 0, none⟩) 0 0) 0 [] rfl h2 Bk k ck (evCells (es.take k)) rfl (Hk.out _ (hre.ext (Ext.tr hX0 hS))) H1k.out (by simp only [maxLen]; omega) (by omega) (Ext.size hS) ?_; intro v' w' hown hgr; obtain ⟨A6, c6, rfl⟩ := own_slice hown; have hS2 : Ext wc w' := Ext.grown hS hgr (fun r hr => own_lt h2 r hr);  have o6 := own_evs hown; clear h2 hown hgr; refine hK.out _ _ hS2 ?_; intro hS; clear hS2 hK; (try simp only [Act.put, List.setIfInBounds_toArray, List.set_cons_zero, List.set_cons_succ]); rw [Nat.zero_add])
            refine wpAnyH_ready (rs := [7, 8]) (by kernel_rfl) (by simp) (AllReadyH.cons rfl (fun K hK => ?_) (AllReadyH.cons rfl (fun K hK => ?_) AllReadyH.nil))
            · (refine step_callR rfl (some 41) rfl 17 _ Try.func17 (by kernel_rfl) (by kernel_rfl) _ _ rfl #[.agg (stcells (noSt id) none 0), .slice A6 k c6] (by simp [Act.eval, Act.put]) _ (KF.out _ _ _ (HtkL.out _ _ o6)) ?_; rintro e w' ⟨A7, c7, rfl, hx, o7⟩; refine ⟨_, rfl, ?_⟩; have o7 : OwnLs w' wc.heap.size A7 sK.lines c7 := own_less o7 (Ext.size hS);  refine hK.out _ _ (Ext.tr hS hx) ?_; intro hS; clear hx hK; (try simp only [Act.put, List.setIfInBounds_toArray, List.set_cons_zero, List.set_cons_succ]))
              refine wpAnyH_ready (rs := [8]) (by kernel_rfl) (by simp) (AllReadyH.cons rfl (fun K hK => ?_) AllReadyH.nil)
              (refine step_alloc rfl (some 7) rfl 28 rfl _ alloc_st0 ?_; intro g8 w' hg hx b8; have hg8 := Nat.le_trans (Ext.size hS) hg; have o7 := OwnLs.mono o7 hx;  clear hg; refine hK.out _ _ (Ext.tr hS hx) ?_; intro hS; clear hx hK; (try simp only [Act.put, List.setIfInBounds_toArray, List.set_cons_zero, List.set_cons_succ]))
              refine wpAnyH_ready (rs := [9]) (by kernel_rfl) (by simp) (AllReadyH.cons rfl (fun K hK => ?_) AllReadyH.nil)
              (refine step_store rfl none rfl 28 (.tmp 7) (.tmp 41) rfl g8 28 #[.int .i64 0, .int .i64 0, .int .i64 0, .int .i64 0, .int .i64 0, .slice none 0 0, .int .i64 0, .int .i64 0, .int .i64 0, .int .i64 0, .int .i64 0, .string ⟨#[]⟩] (stcells sK A7 c7) rfl rfl b8 (by rw [stc_size]; rfl) (stc_one _ _ _) 12 st_wide (stc_size _ _ _) ?_; intro w' d8 hkeep hext; have o8 : OwnLs w' wc.heap.size A7 sK.lines c7 := own_keepB o7 hkeep (own_apart o7 b8 _ _); refine hK.out _ _ (hext _ hg8 hS) ?_; intro hS; clear hkeep hext hK b8; (try simp only [Act.put, List.setIfInBounds_toArray, List.set_cons_zero, List.set_cons_succ]))
              refine wpAnyH_done (by kernel_rfl) ?_ _
              go_wp2_with fail
              go_meet
              case rel => exact ⟨g8, A7, c7, rfl, hS, hg8, d8, o8⟩
            · (refine step_alloc rfl (some 7) rfl 28 rfl _ alloc_st0 ?_; intro g8 w' hg hx b8; have hg8 := Nat.le_trans (Ext.size hS) hg; have o6 := RdN.ext o6 hx;  clear hg; refine hK.out _ _ (Ext.tr hS hx) ?_; intro hS; clear hx hK; (try simp only [Act.put, List.setIfInBounds_toArray, List.set_cons_zero, List.set_cons_succ]))
              refine wpAnyH_ready (rs := [7]) (by kernel_rfl) (by simp) (AllReadyH.cons rfl (fun K hK => ?_) AllReadyH.nil)
              (refine step_callR rfl (some 41) rfl 17 _ Try.func17 (by kernel_rfl) (by kernel_rfl) _ _ rfl #[.agg (stcells (noSt id) none 0), .slice A6 k c6] (by simp [Act.eval, Act.put]) _ (KF.out _ _ _ (HtkL.out _ _ o6)) ?_; rintro e w' ⟨A7, c7, rfl, hx, o7⟩; refine ⟨_, rfl, ?_⟩; have o7 : OwnLs w' wc.heap.size A7 sK.lines c7 := own_less o7 (Ext.size hS); have b8 := Ext.blk hx b8;  refine hK.out _ _ (Ext.tr hS hx) ?_; intro hS; clear hx hK; (try simp only [Act.put, List.setIfInBounds_toArray, List.set_cons_zero, List.set_cons_succ]))
              refine wpAnyH_ready (rs := [9]) (by kernel_rfl) (by simp) (AllReadyH.cons rfl (fun K hK => ?_) AllReadyH.nil)
              (refine step_store rfl none rfl 28 (.tmp 7) (.tmp 41) rfl g8 28 #[.int .i64 0, .int .i64 0, .int .i64 0, .int .i64 0, .int .i64 0, .slice none 0 0, .int .i64 0, .int .i64 0, .int .i64 0, .int .i64 0, .int .i64 0, .string ⟨#[]⟩] (stcells sK A7 c7) rfl rfl b8 (by rw [stc_size]; rfl) (stc_one _ _ _) 12 st_wide (stc_size _ _ _) ?_; intro w' d8 hkeep hext; have o8 : OwnLs w' wc.heap.size A7 sK.lines c7 := own_keepB o7 hkeep (own_apart o7 b8 _ _); refine hK.out _ _ (hext _ hg8 hS) ?_; intro hS; clear hkeep hext hK b8; (try simp only [Act.put, List.setIfInBounds_toArray, List.set_cons_zero, List.set_cons_succ]))
              refine wpAnyH_done (by kernel_rfl) ?_ _
              go_wp2_with fail
              go_meet
              case rel => exact ⟨g8, A7, c7, rfl, hS, hg8, d8, o8⟩
          · (refine step_alloc rfl (some 7) rfl 28 rfl _ alloc_st0 ?_; intro g8 w' hg hx b8; have hg8 := Nat.le_trans (Ext.size hS) hg; have hne : g8 ≠ g2 := (by have := b2.lt; omega); have b2 := Ext.blk hx b2;  clear hg; refine hK.out _ _ (Ext.tr hS hx) ?_; intro hS; clear hx hK; (try simp only [Act.put, List.setIfInBounds_toArray, List.set_cons_zero, List.set_cons_succ]))
            refine wpAnyH_ready (rs := [6]) (by kernel_rfl) (by simp) (AllReadyH.cons rfl (fun K hK => ?_) AllReadyH.nil)
            (have h2 := own_new0 (s := 10) b2 hg2; refine step_append_rd rfl (some 40) rfl (.tmp 36) (.tmp 39) 43 rfl wc.heap.size 77 _ 10 96 Try.underlying43 el_ev (.slice (some ⟨g2, 0, none⟩) 0 0) 0 [] rfl h2 Bk k ck (evCells (es.take k)) rfl (Hk.out _ (hre.ext (Ext.tr hX0 hS))) H1k.out (by simp only [maxLen]; omega) (by omega) (Ext.size hS) ?_; intro v' w' hown hgr; obtain ⟨A6, c6, rfl⟩ := own_slice hown; have hS2 : Ext wc w' := Ext.grown hS hgr (fun r hr => own_lt h2 r hr); have b8 := BlkG b8 hgr (fun h => hne (by injection h));  have o6 := own_evs hown; clear h2 hown hgr; refine hK.out _ _ hS2 ?_; intro hS; clear hS2 hK; (try simp only [Act.put, List.setIfInBounds_toArray, List.set_cons_zero, List.set_cons_succ]); rw [Nat.zero_add])
            refine wpAnyH_ready (rs := [7]) (by kernel_rfl) (by simp) (AllReadyH.cons rfl (fun K hK => ?_) AllReadyH.nil)
            (refine step_callR rfl (some 41) rfl 17 _ Try.func17 (by kernel_rfl) (by kernel_rfl) _ _ rfl #[.agg (stcells (noSt id) none 0), .slice A6 k c6] (by simp [Act.eval, Act.put]) _ (KF.out _ _ _ (HtkL.out _ _ o6)) ?_; rintro e w' ⟨A7, c7, rfl, hx, o7⟩; refine ⟨_, rfl, ?_⟩; have o7 : OwnLs w' wc.heap.size A7 sK.lines c7 := own_less o7 (Ext.size hS); have b8 := Ext.blk hx b8;  refine hK.out _ _ (Ext.tr hS hx) ?_; intro hS; clear hx hK; (try simp only [Act.put, List.setIfInBounds_toArray, List.set_cons_zero, List.set_cons_succ]))
            refine wpAnyH_ready (rs := [9]) (by kernel_rfl) (by simp) (AllReadyH.cons rfl (fun K hK => ?_) AllReadyH.nil)
            (refine step_store rfl none rfl 28 (.tmp 7) (.tmp 41) rfl g8 28 #[.int .i64 0, .int .i64 0, .int .i64 0, .int .i64 0, .int .i64 0, .slice none 0 0, .int .i64 0, .int .i64 0, .int .i64 0, .int .i64 0, .int .i64 0, .string ⟨#[]⟩] (stcells sK A7 c7) rfl rfl b8 (by rw [stc_size]; rfl) (stc_one _ _ _) 12 st_wide (stc_size _ _ _) ?_; intro w' d8 hkeep hext; have o8 : OwnLs w' wc.heap.size A7 sK.lines c7 := own_keepB o7 hkeep (own_apart o7 b8 _ _); refine hK.out _ _ (hext _ hg8 hS) ?_; intro hS; clear hkeep hext hK b8; (try simp only [Act.put, List.setIfInBounds_toArray, List.set_cons_zero, List.set_cons_succ]))
            refine wpAnyH_done (by kernel_rfl) ?_ _
            go_wp2_with fail
            go_meet
            case rel => exact ⟨g8, A7, c7, rfl, hS, hg8, d8, o8⟩
        · (refine step_alloc rfl (some 7) rfl 28 rfl _ alloc_st0 ?_; intro g8 w' hg hx b8; have hg8 := Nat.le_trans (Ext.size hS) hg;  clear hg; refine hK.out _ _ (Ext.tr hS hx) ?_; intro hS; clear hx hK; (try simp only [Act.put, List.setIfInBounds_toArray, List.set_cons_zero, List.set_cons_succ]))
          refine wpAnyH_ready (rs := [2]) (by kernel_rfl) (by simp) (AllReadyH.cons rfl (fun K hK => ?_) AllReadyH.nil)
          (refine step_new0 rfl (some 36) rfl 43 77 rfl new_ev ?_; intro g2 w' hg hx b2; have hg2 := Nat.le_trans (Ext.size hS) hg; have hne : g8 ≠ g2 := (by have := b8.lt; omega); have b8 := Ext.blk hx b8;  clear hg; refine hK.out _ _ (Ext.tr hS hx) ?_; intro hS; clear hx hK; (try simp only [Act.put, List.setIfInBounds_toArray, List.set_cons_zero, List.set_cons_succ]))
          refine wpAnyH_ready (rs := [6]) (by kernel_rfl) (by simp) (AllReadyH.cons rfl (fun K hK => ?_) AllReadyH.nil)
          (have h2 := own_new0 (s := 10) b2 hg2; refine step_append_rd rfl (some 40) rfl (.tmp 36) (.tmp 39) 43 rfl wc.heap.size 77 _ 10 96 Try.underlying43 el_ev (.slice (some ⟨g2, 0, none⟩) 0 0) 0 [] rfl h2 Bk k ck (evCells (es.take k)) rfl (Hk.out _ (hre.ext (Ext.tr hX0 hS))) H1k.out (by simp only [maxLen]; omega) (by omega) (Ext.size hS) ?_; intro v' w' hown hgr; obtain ⟨A6, c6, rfl⟩ := own_slice hown; have hS2 : Ext wc w' := Ext.grown hS hgr (fun r hr => own_lt h2 r hr); have b8 := BlkG b8 hgr (fun h => hne (by injection h));  have o6 := own_evs hown; clear h2 hown hgr; refine hK.out _ _ hS2 ?_; intro hS; clear hS2 hK; (try simp only [Act.put, List.setIfInBounds_toArray, List.set_cons_zero, List.set_cons_succ]); rw [Nat.zero_add])
          refine wpAnyH_ready (rs := [7]) (by kernel_rfl) (by simp) (AllReadyH.cons rfl (fun K hK => ?_) AllReadyH.nil)
          (refine step_callR rfl (some 41) rfl 17 _ Try.func17 (by kernel_rfl) (by kernel_rfl) _ _ rfl #[.agg (stcells (noSt id) none 0), .slice A6 k c6] (by simp [Act.eval, Act.put]) _ (KF.out _ _ _ (HtkL.out _ _ o6)) ?_; rintro e w' ⟨A7, c7, rfl, hx, o7⟩; refine ⟨_, rfl, ?_⟩; have o7 : OwnLs w' wc.heap.size A7 sK.lines c7 := own_less o7 (Ext.size hS); have b8 := Ext.blk hx b8;  refine hK.out _ _ (Ext.tr hS hx) ?_; intro hS; clear hx hK; (try simp only [Act.put, List.setIfInBounds_toArray, List.set_cons_zero, List.set_cons_succ]))
          refine wpAnyH_ready (rs := [9]) (by kernel_rfl) (by simp) (AllReadyH.cons rfl (fun K hK => ?_) AllReadyH.nil)
          (refine step_store rfl none rfl 28 (.tmp 7) (.tmp 41) rfl g8 28 #[.int .i64 0, .int .i64 0, .int .i64 0, .int .i64 0, .int .i64 0, .slice none 0 0, .int .i64 0, .int .i64 0, .int .i64 0, .int .i64 0, .int .i64 0, .string ⟨#[]⟩] (stcells sK A7 c7) rfl rfl b8 (by rw [stc_size]; rfl) (stc_one _ _ _) 12 st_wide (stc_size _ _ _) ?_; intro w' d8 hkeep hext; have o8 : OwnLs w' wc.heap.size A7 sK.lines c7 := own_keepB o7 hkeep (own_apart o7 b8 _ _); refine hK.out _ _ (hext _ hg8 hS) ?_; intro hS; clear hkeep hext hK b8; (try simp only [Act.put, List.setIfInBounds_toArray, List.set_cons_zero, List.set_cons_succ]))
          refine wpAnyH_done (by kernel_rfl) ?_ _
          go_wp2_with fail
          go_meet
          case rel => exact ⟨g8, A7, c7, rfl, hS, hg8, d8, o8⟩
      · (refine step_new0 rfl (some 36) rfl 43 77 rfl new_ev ?_; intro g2 w' hg hx b2; have hg2 := Nat.le_trans (Ext.size hS) hg;  clear hg; refine hK.out _ _ (Ext.tr hS hx) ?_; intro hS; clear hx hK; (try simp only [Act.put, List.setIfInBounds_toArray, List.set_cons_zero, List.set_cons_succ]))
        refine wpAnyH_ready (rs := [1, 8]) (by kernel_rfl) (by simp) (AllReadyH.cons rfl (fun K hK => ?_) (AllReadyH.cons rfl (fun K hK => ?_) AllReadyH.nil))
        · (refine step_callR rfl (some 35) rfl 18 _ Try.func18 (by kernel_rfl) (by kernel_rfl) _ _ rfl #[.int .i64 id] (by simp [Act.eval, Act.put]) _ (K1.out _) ?_; rintro e w' ⟨rfl, hx⟩; refine ⟨_, rfl, ?_⟩; have b2 := Ext.blk hx b2;  refine hK.out _ _ (Ext.tr hS hx) ?_; intro hS; clear hx hK; (try simp only [Act.put, List.setIfInBounds_toArray, List.set_cons_zero, List.set_cons_succ]))
          refine wpAnyH_ready (rs := [6, 8]) (by kernel_rfl) (by simp) (AllReadyH.cons rfl (fun K hK => ?_) (AllReadyH.cons rfl (fun K hK => ?_) AllReadyH.nil))
          · (have h2 := own_new0 (s := 10) b2 hg2; refine step_append_rd rfl (some 40) rfl (.tmp 36) (.tmp 39) 43 rfl wc.heap.size 77 _ 10 96 Try.underlying43 el_ev (.slice (some ⟨g2, 0, none⟩) 0 0) 0 [] rfl h2 Bk k ck (evCells (es.take k)) rfl (Hk.out _ (hre.ext (Ext.tr hX0 hS))) H1k.out (by simp only [maxLen]; omega) (by omega) (Ext.size hS) ?_; intro v' w' hown hgr; obtain ⟨A6, c6, rfl⟩ := own_slice hown; have hS2 : Ext wc w' := Ext.grown hS hgr (fun r hr => own_lt h2 r hr);  have o6 := own_evs hown; clear h2 hown hgr; refine hK.out _ _ hS2 ?_; intro hS; clear hS2 hK; (try simp only [Act.put, List.setIfInBounds_toArray, List.set_cons_zero, List.set_cons_succ]); rw [Nat.zero_add])
            refine wpAnyH_ready (rs := [7, 8]) (by kernel_rfl) (by simp) (AllReadyH.cons rfl (fun K hK => ?_) (AllReadyH.cons rfl (fun K hK => ?_) AllReadyH.nil))
            · (refine step_callR rfl (some 41) rfl 17 _ Try.func17 (by kernel_rfl) (by kernel_rfl) _ _ rfl #[.agg (stcells (noSt id) none 0), .slice A6 k c6] (by simp [Act.eval, Act.put]) _ (KF.out _ _ _ (HtkL.out _ _ o6)) ?_; rintro e w' ⟨A7, c7, rfl, hx, o7⟩; refine ⟨_, rfl, ?_⟩; have o7 : OwnLs w' wc.heap.size A7 sK.lines c7 := own_less o7 (Ext.size hS);  refine hK.out _ _ (Ext.tr hS hx) ?_; intro hS; clear hx hK; (try simp only [Act.put, List.setIfInBounds_toArray, List.set_cons_zero, List.set_cons_succ]))
              refine wpAnyH_ready (rs := [8]) (by kernel_rfl) (by simp) (AllReadyH.cons rfl (fun K hK => ?_) AllReadyH.nil)
              (refine step_alloc rfl (some 7) rfl 28 rfl _ alloc_st0 ?_; intro g8 w' hg hx b8; have hg8 := Nat.le_trans (Ext.size hS) hg; have o7 := OwnLs.mono o7 hx;  clear hg; refine hK.out _ _ (Ext.tr hS hx) ?_; intro hS; clear hx hK; (try simp only [Act.put, List.setIfInBounds_toArray, List.set_cons_zero, List.set_cons_succ]))
              refine wpAnyH_ready (rs := [9]) (by kernel_rfl) (by simp) (AllReadyH.cons rfl (fun K hK => ?_) AllReadyH.nil)
              (refine step_store rfl none rfl 28 (.tmp 7) (.tmp 41) rfl g8 28 #[.int .i64 0, .int .i64 0, .int .i64 0, .int .i64 0, .int .i64 0, .slice none 0 0, .int .i64 0, .int .i64 0, .int .i64 0, .int .i64 0, .int .i64 0, .string ⟨#[]⟩] (stcells sK A7 c7) rfl rfl b8 (by rw [stc_size]; rfl) (stc_one _ _ _) 12 st_wide (stc_size _ _ _) ?_; intro w' d8 hkeep hext; have o8 : OwnLs w' wc.heap.size A7 sK.lines c7 := own_keepB o7 hkeep (own_apart o7 b8 _ _); refine hK.out _ _ (hext _ hg8 hS) ?_; intro hS; clear hkeep hext hK b8; (try simp only [Act.put, List.setIfInBounds_toArray, List.set_cons_zero, List.set_cons_succ]))
              refine wpAnyH_done (by kernel_rfl) ?_ _
              go_wp2_with fail
              go_meet
              case rel => exact ⟨g8, A7, c7, rfl, hS, hg8, d8, o8⟩
            · (refine step_alloc rfl (some 7) rfl 28 rfl _ alloc_st0 ?_; intro g8 w' hg hx b8; have hg8 := Nat.le_trans (Ext.size hS) hg; have o6 := RdN.ext o6 hx;  clear hg; refine hK.out _ _ (Ext.tr hS hx) ?_; intro hS; clear hx hK; (try simp only [Act.put, List.setIfInBounds_toArray, List.set_cons_zero, List.set_cons_succ]))
              refine wpAnyH_ready (rs := [7]) (by kernel_rfl) (by simp) (AllReadyH.cons rfl (fun K hK => ?_) AllReadyH.nil)
              (refine step_callR rfl (some 41) rfl 17 _ Try.func17 (by kernel_rfl) (by kernel_rfl) _ _ rfl #[.agg (stcells (noSt id) none 0), .slice A6 k c6] (by simp [Act.eval, Act.put]) _ (KF.out _ _ _ (HtkL.out _ _ o6)) ?_; rintro e w' ⟨A7, c7, rfl, hx, o7⟩; refine ⟨_, rfl, ?_⟩; have o7 : OwnLs w' wc.heap.size A7 sK.lines c7 := own_less o7 (Ext.size hS); have b8 := Ext.blk hx b8;  refine hK.out _ _ (Ext.tr hS hx) ?_; intro hS; clear hx hK; (try simp only [Act.put, List.setIfInBounds_toArray, List.set_cons_zero, List.set_cons_succ]))
              refine wpAnyH_ready (rs := [9]) (by kernel_rfl) (by simp) (AllReadyH.cons rfl (fun K hK => ?_) AllReadyH.nil)
              (refine step_store rfl none rfl 28 (.tmp 7) (.tmp 41) rfl g8 28 #[.int .i64 0, .int .i64 0, .int .i64 0, .int .i64 0, .int .i64 0, .slice none 0 0, .int .i64 0, .int .i64 0, .int .i64 0, .int .i64 0, .int .i64 0, .string ⟨#[]⟩] (stcells sK A7 c7) rfl rfl b8 (by rw [stc_size]; rfl) (stc_one _ _ _) 12 st_wide (stc_size _ _ _) ?_; intro w' d8 hkeep hext; have o8 : OwnLs w' wc.heap.size A7 sK.lines c7 := own_keepB o7 hkeep (own_apart o7 b8 _ _); refine hK.out _ _ (hext _ hg8 hS) ?_; intro hS; clear hkeep hext hK b8; (try simp only [Act.put, List.setIfInBounds_toArray, List.set_cons_zero, List.set_cons_succ]))
              refine wpAnyH_done (by kernel_rfl) ?_ _
              go_wp2_with fail
              go_meet
              case rel => exact ⟨g8, A7, c7, rfl, hS, hg8, d8, o8⟩
          · (refine step_alloc rfl (some 7) rfl 28 rfl _ alloc_st0 ?_; intro g8 w' hg hx b8; have hg8 := Nat.le_trans (Ext.size hS) hg; have hne : g8 ≠ g2 := (by have := b2.lt; omega); have b2 := Ext.blk hx b2;  clear hg; refine hK.out _ _ (Ext.tr hS hx) ?_; intro hS; clear hx hK; (try simp only [Act.put, List.setIfInBounds_toArray, List.set_cons_zero, List.set_cons_succ]))
            refine wpAnyH_ready (rs := [6]) (by kernel_rfl) (by simp) (AllReadyH.cons rfl (fun K hK => ?_) AllReadyH.nil)
            (have h2 := own_new0 (s := 10) b2 hg2; refine step_append_rd rfl (some 40) rfl (.tmp 36) (.tmp 39) 43 rfl wc.heap.size 77 _ 10 96 Try.underlying43 el_ev (.slice (some ⟨g2, 0, none⟩) 0 0) 0 [] rfl h2 Bk k ck (evCells (es.take k)) rfl (Hk.out _ (hre.ext (Ext.tr hX0 hS))) H1k.out (by simp only [maxLen]; omega) (by omega) (Ext.size hS) ?_; intro v' w' hown hgr; obtain ⟨A6, c6, rfl⟩ := own_slice hown; have hS2 : Ext wc w' := Ext.grown hS hgr (fun r hr => own_lt h2 r hr); have b8 := BlkG b8 hgr (fun h => hne (by injection h));  have o6 := own_evs hown; clear h2 hown hgr; refine hK.out _ _ hS2 ?_; intro hS; clear hS2 hK; (try simp only [Act.put, List.setIfInBounds_toArray, List.set_cons_zero, List.set_cons_succ]); rw [Nat.zero_add])
            refine wpAnyH_ready (rs := [7]) (by kernel_rfl) (by simp) (AllReadyH.cons rfl (fun K hK => ?_) AllReadyH.nil)
            (refine step_callR rfl (some 41) rfl 17 _ Try.func17 (by kernel_rfl) (by kernel_rfl) _ _ rfl #[.agg (stcells (noSt id) none 0), .slice A6 k c6] (by simp [Act.eval, Act.put]) _ (KF.out _ _ _ (HtkL.out _ _ o6)) ?_; rintro e w' ⟨A7, c7, rfl, hx, o7⟩; refine ⟨_, rfl, ?_⟩; have o7 : OwnLs w' wc.heap.size A7 sK.lines c7 := own_less o7 (Ext.size hS); have b8 := Ext.blk hx b8;  refine hK.out _ _ (Ext.tr hS hx) ?_; intro hS; clear hx hK; (try simp only [Act.put, List.setIfInBounds_toArray, List.set_cons_zero, List.set_cons_succ]))
            refine wpAnyH_ready (rs := [9]) (by kernel_rfl) (by simp) (AllReadyH.cons rfl (fun K hK => ?_) AllReadyH.nil)
            (refine step_store rfl none rfl 28 (.tmp 7) (.tmp 41) rfl g8 28 #[.int .i64 0, .int .i64 0, .int .i64 0, .int .i64 0, .int .i64 0, .slice none 0 0, .int .i64 0, .int .i64 0, .int .i64 0, .int .i64 0, .int .i64 0, .string ⟨#[]⟩] (stcells sK A7 c7) rfl rfl b8 (by rw [stc_size]; rfl) (stc_one _ _ _) 12 st_wide (stc_size _ _ _) ?_; intro w' d8 hkeep hext; have o8 : OwnLs w' wc.heap.size A7 sK.lines c7 := own_keepB o7 hkeep (own_apart o7 b8 _ _); refine hK.out _ _ (hext _ hg8 hS) ?_; intro hS; clear hkeep hext hK b8; (try simp only [Act.put, List.setIfInBounds_toArray, List.set_cons_zero, List.set_cons_succ]))
            refine wpAnyH_done (by kernel_rfl) ?_ _
            go_wp2_with fail
            go_meet
            case rel => exact ⟨g8, A7, c7, rfl, hS, hg8, d8, o8⟩
        · (refine step_alloc rfl (some 7) rfl 28 rfl _ alloc_st0 ?_; intro g8 w' hg hx b8; have hg8 := Nat.le_trans (Ext.size hS) hg; have hne : g8 ≠ g2 := (by have := b2.lt; omega); have b2 := Ext.blk hx b2;  clear hg; refine hK.out _ _ (Ext.tr hS hx) ?_; intro hS; clear hx hK; (try simp only [Act.put, List.setIfInBounds_toArray, List.set_cons_zero, List.set_cons_succ]))
          refine wpAnyH_ready (rs := [1]) (by kernel_rfl) (by simp) (AllReadyH.cons rfl (fun K hK => ?_) AllReadyH.nil)
          (refine step_callR rfl (some 35) rfl 18 _ Try.func18 (by kernel_rfl) (by kernel_rfl) _ _ rfl #[.int .i64 id] (by simp [Act.eval, Act.put]) _ (K1.out _) ?_; rintro e w' ⟨rfl, hx⟩; refine ⟨_, rfl, ?_⟩; have b2 := Ext.blk hx b2; have b8 := Ext.blk hx b8;  refine hK.out _ _ (Ext.tr hS hx) ?_; intro hS; clear hx hK; (try simp only [Act.put, List.setIfInBounds_toArray, List.set_cons_zero, List.set_cons_succ]))
          refine wpAnyH_ready (rs := [6]) (by kernel_rfl) (by simp) (AllReadyH.cons rfl (fun K hK => ?_) AllReadyH.nil)
          (have h2 := own_new0 (s := 10) b2 hg2; refine step_append_rd rfl (some 40) rfl (.tmp 36) (.tmp 39) 43 rfl wc.heap.size 77 _ 10 96 Try.underlying43 el_ev (.slice (some ⟨g2, 0, none⟩) 0 0) 0 [] rfl h2 Bk k ck (evCells (es.take k)) rfl (Hk.out _ (hre.ext (Ext.tr hX0 hS))) H1k.out (by simp only [maxLen]; omega) (by omega) (Ext.size hS) ?_; intro v' w' hown hgr; obtain ⟨A6, c6, rfl⟩ := own_slice hown; have hS2 : Ext wc w' := Ext.grown hS hgr (fun r hr => own_lt h2 r hr); have b8 := BlkG b8 hgr (fun h => hne (by injection h));  have o6 := own_evs hown; clear h2 hown hgr; refine hK.out _ _ hS2 ?_; intro hS; clear hS2 hK; (try simp only [Act.put, List.setIfInBounds_toArray, List.set_cons_zero, List.set_cons_succ]); rw [Nat.zero_add])
          refine wpAnyH_ready (rs := [7]) (by kernel_rfl) (by simp) (AllReadyH.cons rfl (fun K hK => ?_) AllReadyH.nil)
          (refine step_callR rfl (some 41) rfl 17 _ Try.func17 (by kernel_rfl) (by kernel_rfl) _ _ rfl #[.agg (stcells (noSt id) none 0), .slice A6 k c6] (by simp [Act.eval, Act.put]) _ (KF.out _ _ _ (HtkL.out _ _ o6)) ?_; rintro e w' ⟨A7, c7, rfl, hx, o7⟩; refine ⟨_, rfl, ?_⟩; have o7 : OwnLs w' wc.heap.size A7 sK.lines c7 := own_less o7 (Ext.size hS); have b8 := Ext.blk hx b8;  refine hK.out _ _ (Ext.tr hS hx) ?_; intro hS; clear hx hK; (try simp only [Act.put, List.setIfInBounds_toArray, List.set_cons_zero, List.set_cons_succ]))
          refine wpAnyH_ready (rs := [9]) (by kernel_rfl) (by simp) (AllReadyH.cons rfl (fun K hK => ?_) AllReadyH.nil)
          (refine step_store rfl none rfl 28 (.tmp 7) (.tmp 41) rfl g8 28 #[.int .i64 0, .int .i64 0, .int .i64 0, .int .i64 0, .int .i64 0, .slice none 0 0, .int .i64 0, .int .i64 0, .int .i64 0, .int .i64 0, .int .i64 0, .string ⟨#[]⟩] (stcells sK A7 c7) rfl rfl b8 (by rw [stc_size]; rfl) (stc_one _ _ _) 12 st_wide (stc_size _ _ _) ?_; intro w' d8 hkeep hext; have o8 : OwnLs w' wc.heap.size A7 sK.lines c7 := own_keepB o7 hkeep (own_apart o7 b8 _ _); refine hK.out _ _ (hext _ hg8 hS) ?_; intro hS; clear hkeep hext hK b8; (try simp only [Act.put, List.setIfInBounds_toArray, List.set_cons_zero, List.set_cons_succ]))
          refine wpAnyH_done (by kernel_rfl) ?_ _
          go_wp2_with fail
          go_meet
          case rel => exact ⟨g8, A7, c7, rfl, hS, hg8, d8, o8⟩
      · (refine step_alloc rfl (some 7) rfl 28 rfl _ alloc_st0 ?_; intro g8 w' hg hx b8; have hg8 := Nat.le_trans (Ext.size hS) hg;  clear hg; refine hK.out _ _ (Ext.tr hS hx) ?_; intro hS; clear hx hK; (try simp only [Act.put, List.setIfInBounds_toArray, List.set_cons_zero, List.set_cons_succ]))
        refine wpAnyH_ready (rs := [1, 2]) (by kernel_rfl) (by simp) (AllReadyH.cons rfl (fun K hK => ?_) (AllReadyH.cons rfl (fun K hK => ?_) AllReadyH.nil))
        · (refine step_callR rfl (some 35) rfl 18 _ Try.func18 (by kernel_rfl) (by kernel_rfl) _ _ rfl #[.int .i64 id] (by simp [Act.eval, Act.put]) _ (K1.out _) ?_; rintro e w' ⟨rfl, hx⟩; refine ⟨_, rfl, ?_⟩; have b8 := Ext.blk hx b8;  refine hK.out _ _ (Ext.tr hS hx) ?_; intro hS; clear hx hK; (try simp only [Act.put, List.setIfInBounds_toArray, List.set_cons_zero, List.set_cons_succ]))
          refine wpAnyH_ready (rs := [2]) (by kernel_rfl) (by simp) (AllReadyH.cons rfl (fun K hK => ?_) AllReadyH.nil)
          (refine step_new0 rfl (some 36) rfl 43 77 rfl new_ev ?_; intro g2 w' hg hx b2; have hg2 := Nat.le_trans (Ext.size hS) hg; have hne : g8 ≠ g2 := (by have := b8.lt; omega); have b8 := Ext.blk hx b8;  clear hg; refine hK.out _ _ (Ext.tr hS hx) ?_; intro hS; clear hx hK; (try simp only [Act.put, List.setIfInBounds_toArray, List.set_cons_zero, List.set_cons_succ]))
          refine wpAnyH_ready (rs := [6]) (by kernel_rfl) (by simp) (AllReadyH.cons rfl (fun K hK => ?_) AllReadyH.nil)
          (have h2 := own_new0 (s := 10) b2 hg2; refine step_append_rd rfl (some 40) rfl (.tmp 36) (.tmp 39) 43 rfl wc.heap.size 77 _ 10 96 Try.underlying43 el_ev (.slice (some ⟨g2, 0, none⟩) 0 0) 0 [] rfl h2 Bk k ck (evCells (es.take k)) rfl (Hk.out _ (hre.ext (Ext.tr hX0 hS))) H1k.out (by simp only [maxLen]; omega) (by omega) (Ext.size hS) ?_; intro v' w' hown hgr; obtain ⟨A6, c6, rfl⟩ := own_slice hown; have hS2 : Ext wc w' := Ext.grown hS hgr (fun r hr => own_lt h2 r hr); have b8 := BlkG b8 hgr (fun h => hne (by injection h));  have o6 := own_evs hown; clear h2 hown hgr; refine hK.out _ _ hS2 ?_; intro hS; clear hS2 hK; (try simp only [Act.put, List.setIfInBounds_toArray, List.set_cons_zero, List.set_cons_succ]); rw [Nat.zero_add])
          refine wpAnyH_ready (rs := [7]) (by kernel_rfl) (by simp) (AllReadyH.cons rfl (fun K hK => ?_) AllReadyH.nil)
          (refine step_callR rfl (some 41) rfl 17 _ Try.func17 (by kernel_rfl) (by kernel_rfl) _ _ rfl #[.agg (stcells (noSt id) none 0), .slice A6 k c6] (by simp [Act.eval, Act.put]) _ (KF.out _ _ _ (HtkL.out _ _ o6)) ?_; rintro e w' ⟨A7, c7, rfl, hx, o7⟩; refine ⟨_, rfl, ?_⟩; have o7 : OwnLs w' wc.heap.size A7 sK.lines c7 := own_less o7 (Ext.size hS); have b8 := Ext.blk hx b8;  refine hK.out _ _ (Ext.tr hS hx) ?_; intro hS; clear hx hK; (try simp only [Act.put, List.setIfInBounds_toArray, List.set_cons_zero, List.set_cons_succ]))
          refine wpAnyH_ready (rs := [9]) (by kernel_rfl) (by simp) (AllReadyH.cons rfl (fun K hK => ?_) AllReadyH.nil)
          (refine step_store rfl none rfl 28 (.tmp 7) (.tmp 41) rfl g8 28 #[.int .i64 0, .int .i64 0, .int .i64 0, .int .i64 0, .int .i64 0, .slice none 0 0, .int .i64 0, .int .i64 0, .int .i64 0, .int .i64 0, .int .i64 0, .string ⟨#[]⟩] (stcells sK A7 c7) rfl rfl b8 (by rw [stc_size]; rfl) (stc_one _ _ _) 12 st_wide (stc_size _ _ _) ?_; intro w' d8 hkeep hext; have o8 : OwnLs w' wc.heap.size A7 sK.lines c7 := own_keepB o7 hkeep (own_apart o7 b8 _ _); refine hK.out _ _ (hext _ hg8 hS) ?_; intro hS; clear hkeep hext hK b8; (try simp only [Act.put, List.setIfInBounds_toArray, List.set_cons_zero, List.set_cons_succ]))
          refine wpAnyH_done (by kernel_rfl) ?_ _
          go_wp2_with fail
          go_meet
          case rel => exact ⟨g8, A7, c7, rfl, hS, hg8, d8, o8⟩
        · (refine step_new0 rfl (some 36) rfl 43 77 rfl new_ev ?_; intro g2 w' hg hx b2; have hg2 := Nat.le_trans (Ext.size hS) hg; have hne : g8 ≠ g2 := (by have := b8.lt; omega); have b8 := Ext.blk hx b8;  clear hg; refine hK.out _ _ (Ext.tr hS hx) ?_; intro hS; clear hx hK; (try simp only [Act.put, List.setIfInBounds_toArray, List.set_cons_zero, List.set_cons_succ]))
          refine wpAnyH_ready (rs := [1]) (by kernel_rfl) (by simp) (AllReadyH.cons rfl (fun K hK => ?_) AllReadyH.nil)
          (refine step_callR rfl (some 35) rfl 18 _ Try.func18 (by kernel_rfl) (by kernel_rfl) _ _ rfl #[.int .i64 id] (by simp [Act.eval, Act.put]) _ (K1.out _) ?_; rintro e w' ⟨rfl, hx⟩; refine ⟨_, rfl, ?_⟩; have b2 := Ext.blk hx b2; have b8 := Ext.blk hx b8;  refine hK.out _ _ (Ext.tr hS hx) ?_; intro hS; clear hx hK; (try simp only [Act.put, List.setIfInBounds_toArray, List.set_cons_zero, List.set_cons_succ]))
          refine wpAnyH_ready (rs := [6]) (by kernel_rfl) (by simp) (AllReadyH.cons rfl (fun K hK => ?_) AllReadyH.nil)
          (have h2 := own_new0 (s := 10) b2 hg2; refine step_append_rd rfl (some 40) rfl (.tmp 36) (.tmp 39) 43 rfl wc.heap.size 77 _ 10 96 Try.underlying43 el_ev (.slice (some ⟨g2, 0, none⟩) 0 0) 0 [] rfl h2 Bk k ck (evCells (es.take k)) rfl (Hk.out _ (hre.ext (Ext.tr hX0 hS))) H1k.out (by simp only [maxLen]; omega) (by omega) (Ext.size hS) ?_; intro v' w' hown hgr; obtain ⟨A6, c6, rfl⟩ := own_slice hown; have hS2 : Ext wc w' := Ext.grown hS hgr (fun r hr => own_lt h2 r hr); have b8 := BlkG b8 hgr (fun h => hne (by injection h));  have o6 := own_evs hown; clear h2 hown hgr; refine hK.out _ _ hS2 ?_; intro hS; clear hS2 hK; (try simp only [Act.put, List.setIfInBounds_toArray, List.set_cons_zero, List.set_cons_succ]); rw [Nat.zero_add])
          refine wpAnyH_ready (rs := [7]) (by kernel_rfl) (by simp) (AllReadyH.cons rfl (fun K hK => ?_) AllReadyH.nil)
          (refine step_callR rfl (some 41) rfl 17 _ Try.func17 (by kernel_rfl) (by kernel_rfl) _ _ rfl #[.agg (stcells (noSt id) none 0), .slice A6 k c6] (by simp [Act.eval, Act.put]) _ (KF.out _ _ _ (HtkL.out _ _ o6)) ?_; rintro e w' ⟨A7, c7, rfl, hx, o7⟩; refine ⟨_, rfl, ?_⟩; have o7 : OwnLs w' wc.heap.size A7 sK.lines c7 := own_less o7 (Ext.size hS); have b8 := Ext.blk hx b8;  refine hK.out _ _ (Ext.tr hS hx) ?_; intro hS; clear hx hK; (try simp only [Act.put, List.setIfInBounds_toArray, List.set_cons_zero, List.set_cons_succ]))
          refine wpAnyH_ready (rs := [9]) (by kernel_rfl) (by simp) (AllReadyH.cons rfl (fun K hK => ?_) AllReadyH.nil)
          (refine step_store rfl none rfl 28 (.tmp 7) (.tmp 41) rfl g8 28 #[.int .i64 0, .int .i64 0, .int .i64 0, .int .i64 0, .int .i64 0, .slice none 0 0, .int .i64 0, .int .i64 0, .int .i64 0, .int .i64 0, .int .i64 0, .string ⟨#[]⟩] (stcells sK A7 c7) rfl rfl b8 (by rw [stc_size]; rfl) (stc_one _ _ _) 12 st_wide (stc_size _ _ _) ?_; intro w' d8 hkeep hext; have o8 : OwnLs w' wc.heap.size A7 sK.lines c7 := own_keepB o7 hkeep (own_apart o7 b8 _ _); refine hK.out _ _ (hext _ hg8 hS) ?_; intro hS; clear hkeep hext hK b8; (try simp only [Act.put, List.setIfInBounds_toArray, List.set_cons_zero, List.set_cons_succ]))
          refine wpAnyH_done (by kernel_rfl) ?_ _
          go_wp2_with fail
          go_meet
          case rel => exact ⟨g8, A7, c7, rfl, hS, hg8, d8, o8⟩
    case rest =>
      obtain ⟨g8, A9, c9, rfl, hx8, hg8, b8, o8⟩ := hcut
      have hX8 := Ext.tr hX0 hx8
      go_upto_region 11 with (first
        | (with_reducible refine wpL_load_row rfl 28 (.tmp 7) rfl _ 28 _ 12 rfl b8 st_wide (stc_size _ _ _) ?_)
        | (go_at_call 14; (with_reducible refine (KE.out _ _ _ o8.rd).mono ?_); rintro e w3 ⟨A3, c3, rfl, hx3, ho3⟩; have O3 := Lib.hid ho3; clear ho3)
        | (go_at_call 11; (with_reducible refine (KD.out _ _ _ (rd_own O3.out) (own_ncap O3.out)).mono ?_); rintro e w6 ⟨A6, c6, rfl, hx6, ho6⟩; have O6 := Lib.hid ho6; clear ho6; have hw6 : w.heap.size ≤ w6.heap.size := Ext.size (Ext.tr hX8 (Ext.tr hx3 hx6)); have b6 : Blk ((w6.alloc (.cells #[.int .i64 0, .int .i64 0, .int .i64 0, .int .i64 0, .int .i64 0, .slice none 0 0, .int .i64 0, .int .i64 0, .int .i64 0, .int .i64 0, .int .i64 0, .string ⟨#[]⟩] 28)).setRow w6.heap.size (stcells sK A6 c6)) w6.heap.size 28 (stcells sK A6 c6) := Blk.setRow_ (BlkN rfl))
        | (with_reducible refine wpL_store_row rfl 28 (.tmp 10) (.tmp 50) rfl _ 28 _ _ rfl rfl (BlkN rfl) ((stc_size _ _ _).trans (st_size' _ _ _ _ _ _ _ _ _ _ _ _ _ _).symm) (stc_one _ _ _) 12 st_wide (stc_size _ _ _) ?_)
        | (go_at_call 18; (with_reducible refine (K1.out _).mono ?_); rintro e w7 ⟨rfl, hx7⟩)
        | (at_builtin; go_must (refine wpL_copy rfl (.tmp 60) (.tmp 61) 43 rfl 77 _ 10 96 Try.underlying43 el_ev _ _ _ _ rfl rfl (hre0.ext (by repeat (first | with_reducible exact Below.refl _ _ | with_reducible assumption | with_reducible refine ExtD ?_ | with_reducible refine ExtDN ?_ | with_reducible refine ExtA ?_ | (with_reducible refine ExtR ?_ ?_; (first | omega | (dsimp only; omega) | (simp; done) | (simp; omega))) | (with_reducible refine ExtS ?_ ?_; (first | omega | (dsimp only; omega) | (simp; done) | (simp; omega))) | with_reducible refine Ext.tr ?_ (by with_reducible assumption)))) H1s.out (by omega) (by simp only [maxLen]; omega) ?_); intro A7 c7 w8 hx8' hown7; have hE7 : EsRd w8 A7 es := (by have h := RdN.of_own hown7; unfold EsRd; rw [← Hn.out]; exact h))
        | (go_at_call 17; go_must ((with_reducible refine (KF0.out _ _ _ hE7).mono ?_); rintro e w9 ⟨A8, c8, rfl, hx9, ho8⟩))
        | (with_reducible refine wpL_store_row rfl 28 (.tmp 12) (.tmp 63) rfl _ 28 _ _ rfl rfl (BlkN rfl) ((stc_size _ _ _).trans (st_size' _ _ _ _ _ _ _ _ _ _ _ _ _ _).symm) (stc_one _ _ _) 12 st_wide (stc_size _ _ _) ?_))
      have b10 : Blk w9 w6.heap.size 28 (stcells sK A6 c6) := BlkE b6 (by repeat (first | with_reducible exact Below.refl _ _ | with_reducible assumption | with_reducible refine ExtD ?_ | with_reducible refine ExtDN ?_ | with_reducible refine ExtA ?_ | (with_reducible refine ExtR ?_ ?_; (first | omega | (dsimp only; omega) | (simp; done) | (simp; omega))) | (with_reducible refine ExtS ?_ ?_; (first | omega | (dsimp only; omega) | (simp; done) | (simp; omega))) | with_reducible refine Ext.tr ?_ (by with_reducible assumption)))
      have hG : w6.heap.size < w9.heap.size := b10.lt
      have b12 := Blk.setRow_ (ds := stcells sF A8 c8) (BlkN (w := w9) (cs := #[.int .i64 0, .int .i64 0, .int .i64 0, .int .i64 0, .int .i64 0, .slice none 0 0, .int .i64 0, .int .i64 0, .int .i64 0, .int .i64 0, .int .i64 0, .string ⟨#[]⟩]) (t := 28) rfl)
      have b10c : Blk ((w9.alloc (.cells #[.int .i64 0, .int .i64 0, .int .i64 0, .int .i64 0, .int .i64 0, .slice none 0 0, .int .i64 0, .int .i64 0, .int .i64 0, .int .i64 0, .int .i64 0, .string ⟨#[]⟩] 28)).setRow w9.heap.size (stcells sF A8 c8)) w6.heap.size 28 (stcells sK A6 c6) := BlkR (Nat.ne_of_lt hG) (BlkA b10)
      have o12 : LsRd ((w9.alloc (.cells #[.int .i64 0, .int .i64 0, .int .i64 0, .int .i64 0, .int .i64 0, .slice none 0 0, .int .i64 0, .int .i64 0, .int .i64 0, .int .i64 0, .int .i64 0, .string ⟨#[]⟩] 28)).setRow w9.heap.size (stcells sF A8 c8)) A8 sF.lines := (OwnRw (ds := stcells sF A8 c8) (own_apart (OwnA (o := .cells #[.int .i64 0, .int .i64 0, .int .i64 0, .int .i64 0, .int .i64 0, .slice none 0 0, .int .i64 0, .int .i64 0, .int .i64 0, .int .i64 0, .int .i64 0, .string ⟨#[]⟩] 28) ho8) (BlkN rfl)) (OwnA (o := .cells #[.int .i64 0, .int .i64 0, .int .i64 0, .int .i64 0, .int .i64 0, .slice none 0 0, .int .i64 0, .int .i64 0, .int .i64 0, .int .i64 0, .int .i64 0, .string ⟨#[]⟩] 28) ho8)).rd
      have hX6 : Ext w6 ((w9.alloc (.cells #[.int .i64 0, .int .i64 0, .int .i64 0, .int .i64 0, .int .i64 0, .slice none 0 0, .int .i64 0, .int .i64 0, .int .i64 0, .int .i64 0, .int .i64 0, .string ⟨#[]⟩] 28)).setRow w9.heap.size (stcells sF A8 c8)) := (by repeat (first | with_reducible exact Below.refl _ _ | with_reducible assumption | with_reducible refine ExtD ?_ | with_reducible refine ExtDN ?_ | with_reducible refine ExtA ?_ | (with_reducible refine ExtR ?_ ?_; (first | omega | (dsimp only; omega) | (simp; done) | (simp; omega))) | (with_reducible refine ExtS ?_ ?_; (first | omega | (dsimp only; omega) | (simp; done) | (simp; omega))) | with_reducible refine Ext.tr ?_ (by with_reducible assumption)))
      have o10 : LsRd ((w9.alloc (.cells #[.int .i64 0, .int .i64 0, .int .i64 0, .int .i64 0, .int .i64 0, .slice none 0 0, .int .i64 0, .int .i64 0, .int .i64 0, .int .i64 0, .int .i64 0, .string ⟨#[]⟩] 28)).setRow w9.heap.size (stcells sF A8 c8)) A6 sK.lines := O6.out.rd.ext hX6
      have hXc : Ext w ((w9.alloc (.cells #[.int .i64 0, .int .i64 0, .int .i64 0, .int .i64 0, .int .i64 0, .slice none 0 0, .int .i64 0, .int .i64 0, .int .i64 0, .int .i64 0, .int .i64 0, .string ⟨#[]⟩] 28)).setRow w9.heap.size (stcells sF A8 c8)) := Ext.tr hX8 (Ext.tr hx3 (Ext.tr hx6 hX6))
      clear b6 b10 hx6 hx3 hx7 hx8' hown7 hE7 hx9 ho8 hX6 O3 O6 hG hX8 hx8 b8 o8 hw6
      generalize (w9.alloc (.cells #[.int .i64 0, .int .i64 0, .int .i64 0, .int .i64 0, .int .i64 0, .slice none 0 0, .int .i64 0, .int .i64 0, .int .i64 0, .int .i64 0, .int .i64 0, .string ⟨#[]⟩] 28)).setRow w9.heap.size (stcells sF A8 c8) = wz at *
      generalize w9.heap.size = g12 at *
      generalize w6.heap.size = g10 at *
      refine wp_region_held_drew (S := fun w' => Ext wz w') (by kernel_rfl) (ExtD (Ext.rfl' _)) (fun hS => ?_)
      refine takeD (some 64) (i := 0) (v := .agg (stcells sK A6 c6)) rfl rfl (by kernel_rfl) (by kernel_rfl) (by kernel_rfl) (fun _ _ _ h => h) (yields_row (by kernel_rfl) 28 (.tmp 10) rfl g10 28 (stcells sK A6 c6) 12 rfl (fun w hw => Ext.blk hw b10c) st_wide (stc_size _ _ _)) hS ?_; (try simp only [Act.put, List.setIfInBounds_toArray, List.set_cons_zero, List.set_cons_succ])
      refine takeD (some 71) (i := 7) (v := .agg (stcells sF A8 c8)) rfl rfl (by kernel_rfl) (by kernel_rfl) (by kernel_rfl) (fun _ _ _ h => h) (yields_row (by kernel_rfl) 28 (.tmp 12) rfl g12 28 (stcells sF A8 c8) 12 rfl (fun w hw => Ext.blk hw b12) st_wide (stc_size _ _ _)) hS ?_; (try simp only [Act.put, List.setIfInBounds_toArray, List.set_cons_zero, List.set_cons_succ])
      refine takeD (some 66) (i := 2) (v := .slice B n cb) rfl rfl (by kernel_rfl) (by kernel_rfl) (by kernel_rfl) (fun _ _ _ h => h) (Or.inl ⟨by kernel_rfl, fun _ _ => rfl⟩) hS ?_; (try simp only [Act.put, List.setIfInBounds_toArray, List.set_cons_zero, List.set_cons_succ])
      refine takeD (some 67) (i := 3) (v := .int .i64 (k : Nat)) rfl rfl (by kernel_rfl) (by kernel_rfl) (by kernel_rfl) (fun _ _ _ h => h) (Or.inl ⟨by kernel_rfl, fun _ _ => rfl⟩) hS ?_; (try simp only [Act.put, List.setIfInBounds_toArray, List.set_cons_zero, List.set_cons_succ])
      refine takeD (some 68) (i := 4) (v := .slice Bl (n - k) cl) rfl rfl (by kernel_rfl) (by kernel_rfl) (by kernel_rfl) (fun _ _ _ h => h) (yields_slice 43 elem_evE (by kernel_rfl) (.tmp 66) (some (.tmp 67)) none rfl _ _ _ _ rfl rfl rfl Hrun2.out) hS ?_; (try simp only [Act.put, List.setIfInBounds_toArray, List.set_cons_zero, List.set_cons_succ])
      refine wpAnyH_ready (rs := [1]) (by kernel_rfl) (by simp) (AllReadyH.cons rfl (fun K hK => ?_) AllReadyH.nil)
      (refine step_new0 rfl (some 65) rfl 43 77 rfl new_ev ?_; intro g2 w' hg hx b2; have hg2 := Nat.le_trans (Ext.size hS) hg; clear hg; refine hK.out _ _ (Ext.tr hS hx) ?_; intro hS; clear hx hK; (try simp only [Act.put, List.setIfInBounds_toArray, List.set_cons_zero, List.set_cons_succ]))
      refine wpAnyH_ready (rs := [5]) (by kernel_rfl) (by simp) (AllReadyH.cons rfl (fun K hK => ?_) AllReadyH.nil)
      (have h2 := own_new0 (s := 10) b2 hg2; refine step_append_rd rfl (some 69) rfl (.tmp 65) (.tmp 68) 43 rfl wz.heap.size 77 _ 10 96 Try.underlying43 el_ev (.slice (some ⟨g2, 0, none⟩) 0 0) 0 [] rfl h2 Bl (n - k) cl (evCells (es.drop k)) rfl (Hl.out _ (hre.ext (Ext.tr hXc hS))) H1d.out (by simp only [maxLen]; omega) (by omega) (Ext.size hS) ?_; intro v' w' hown hgr; obtain ⟨A7, c7, rfl⟩ := own_slice hown; have hS2 : Ext wz w' := Ext.grown hS hgr (fun r hr => own_lt h2 r hr); have o7 := own_evs hown; clear h2 hown hgr; refine hK.out _ _ hS2 ?_; intro hS; clear hS2 hK; (try simp only [Act.put, List.setIfInBounds_toArray, List.set_cons_zero, List.set_cons_succ]); rw [Nat.zero_add])
      refine wpAnyH_ready (rs := [6]) (by kernel_rfl) (by simp) (AllReadyH.cons rfl (fun K hK => ?_) AllReadyH.nil)
      (refine step_callR rfl (some 70) rfl 17 _ Try.func17 (by kernel_rfl) (by kernel_rfl) _ _ rfl #[.agg (stcells sK A6 c6), .slice A7 (n - k) c7] (by simp [Act.eval, Act.put]) _ (KG.out _ _ _ _ _ (o10.ext hS) (HdrL.out _ _ o7)) ?_; rintro e w' ⟨A5, c5, rfl, hx, o9⟩; refine ⟨_, rfl, ?_⟩; refine hK.out _ _ (Ext.tr hS hx) ?_; intro hS; clear hx hK; (try simp only [Act.put, List.setIfInBounds_toArray, List.set_cons_zero, List.set_cons_succ]))
      refine wpAnyH_ready (rs := [8]) (by kernel_rfl) (by simp) (AllReadyH.cons rfl (fun K hK => ?_) AllReadyH.nil)
      (refine step_callR rfl (some 72) rfl 12 _ Try.func12 (by kernel_rfl) (by kernel_rfl) _ _ rfl #[.agg (stcells sF A5 c5), .agg (stcells sF A8 c8)] (by simp [Act.eval, Act.put]) _ (KS0.out _ _ _ _ _ o9.rd (o12.ext hS)) ?_; rintro e w' ⟨rfl, hx⟩; refine ⟨_, rfl, ?_⟩; refine hK.out _ _ (Ext.tr hS hx) ?_; intro hS; clear hx hK; (try simp only [Act.put, List.setIfInBounds_toArray, List.set_cons_zero, List.set_cons_succ]))
      refine takeD (some 6) (i := 9) (v := .bool true) rfl rfl (by kernel_rfl) (by kernel_rfl) (by kernel_rfl) (fun _ _ _ h => h) (Or.inl ⟨by kernel_rfl, fun _ _ => rfl⟩) hS ?_; (try simp only [Act.put, List.setIfInBounds_toArray, List.set_cons_zero, List.set_cons_succ])
      refine wpAnyH_done (by kernel_rfl) ?_ _
      go_wp2_with fail
      go_ret
      exact ⟨rfl, Ext.tr hXc hS⟩
end Go.Proofs.Ytipdilmlodakoaa
