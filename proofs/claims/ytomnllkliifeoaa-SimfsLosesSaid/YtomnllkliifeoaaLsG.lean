/-
  The walk of SimfsLoses.
-/
import Derived.Test.YtomnllkliifeoaaLsF
namespace Go.Proofs.Ytomnllkliifeoaa
open Go.RowKit
set_option linter.unusedVariables false
set_option linter.unusedSimpArgs false
open Go.Maps
theorem inv_mountG (fs : List FV) : ∀ d d' : Dk, DkInv d → d.files.length + fs.length ≤ 700 → mountG d fs = (d', 0) → DkInv d' ∧ d'.steps = d.steps ∧ d'.room = d.room := by
  induction fs with
  | nil =>
    intro d d' h _ he
    injection he with he
    subst he
    exact ⟨h, rfl, rfl⟩
  | cons f r ih =>
    intro d d' h hl he
    unfold mountG at he
    split at he
    · rename_i h0
      rw [List.length_cons] at hl
      have := ih (mountAdd d f) d' (inv_mount h h0 (by omega)) (by unfold mountAdd; dsimp only; rw [List.length_append, List.length_singleton]; omega) he
      exact this
    · rename_i h0
      injection he with _ he
      exact absurd he h0
theorem inv_mountD {room : Int} {fs : List FV} {d' : Dk} (h : mountD room fs = (d', 0)) : DkInv d' ∧ d'.steps = 0 ∧ d'.room = (newD room).room := by
  unfold mountD at h
  split at h
  · injection h with _ h; omega
  · exact inv_mountG fs (newD room) d' (inv_new room) (by show 0 + fs.length ≤ 700; omega) h
theorem pair_idx (F : Nat → Fil → Fil) (hF : ∀ i f, (F i f).name = f.name) : ∀ (l : List Fil), l.Pairwise (fun a b => leF a b = true) → (l.mapIdx F).Pairwise (fun a b => leF a b = true) := by
  intro l h
  rw [List.pairwise_iff_getElem] at h ⊢
  intro i j hi hj hij
  rw [List.getElem_mapIdx, List.getElem_mapIdx]
  have := h i j (by simpa using hi) (by simpa using hj) hij
  unfold leF at this ⊢
  rw [hF, hF]
  exact this
theorem restart_img (d : Dk) (keep : List Int) : imgL (restartD d keep) = (restL keep (sortF d.files)).map Fil.fv := by
  unfold imgL
  show (sortF (restL keep (sortF d.files))).map Fil.fv = _
  rw [show sortF (restL keep (sortF d.files)) = restL keep (sortF d.files) from List.mergeSort_of_pairwise (by unfold restL; exact pair_idx (restF keep) (fun _ _ => rfl) _ (sortF_pair _))]
theorem restart_at {d : Dk} {keep : List Int} {i : Nat} {f : Fil} (h : (sortF d.files)[i]? = some f) : (imgL (restartD d keep))[i]? = some (restF keep i f).fv := by
  rw [restart_img]
  unfold restL
  rw [List.getElem?_map, List.getElem?_mapIdx, h]
  rfl
theorem restart_nil {d : Dk} (h : ∀ f ∈ d.files, f.safe = f.data.length) : imgL (restartD d []) = imgL d := by
  rw [restart_img]
  unfold imgL
  congr 1
  unfold restL
  apply List.ext_getElem
  · simp
  · intro i h1 h2
    rw [List.getElem_mapIdx]
    have hm : (sortF d.files)[i] ∈ d.files := (sortF_perm _).mem_iff.1 (List.getElem_mem h2)
    have hs := h _ hm
    have h0 : restK [] i (sortF d.files)[i] = 0 := by unfold restK; rw [if_neg (by simp)]
    unfold restF
    rw [h0, Nat.add_zero, hs, List.take_length, ← hs]
theorem restart_whole {d : Dk} (h : DkInv d) (keep : List Int) : ∀ f ∈ (restartD d keep).files, f.safe = f.data.length := by
  intro f hf
  have hf : f ∈ restL keep (sortF d.files) := hf
  unfold restL at hf
  obtain ⟨i, hi, rfl⟩ := List.mem_mapIdx.1 hf
  have hs := h.safe _ ((sortF_perm _).mem_iff.1 (List.getElem_mem hi))
  have := restK_le (keep := keep) (i := i) hs
  unfold restF
  dsimp only
  rw [List.length_take]
  omega
theorem slice_hi (A : Option Addr) (n c k : Nat) (hk : k ≤ n) (hc : n ≤ c) (W : World) : (Instr.slice 28 (.slice A n c) none (some (.int .i64 (k : Nat))) none).run Try.prog W = .ok (.slice A k c) W := by
  rw [run_slice_h W 28 A n c elem_u8 .i64 k (by omega) (by omega), size_u8, Result.andThen_ok]
  cases A <;> simp [sliced, Addr.add]
theorem rd_take {w : World} {A : Option Addr} {n k : Nat} {l : List UInt8} (h : Rd w A n (u8s l)) (hk : k ≤ n) : Rd w A k (u8s (l.take k)) := by
  have hl := h.1
  rw [u8s_len] at hl
  refine ⟨by rw [u8s_len, List.length_take]; omega, fun h0 => ?_⟩
  obtain ⟨b, o, e, hc⟩ := h.2 (by omega)
  refine ⟨b, o, e, fun j u hu => hc j u ?_⟩
  rw [u8s_take, List.getElem?_take] at hu
  split at hu
  · exact hu
  · cases hu
theorem own_cap {w : World} {base : Nat} {e : TypeId} {A : Option Addr} {n m c : Nat} {xs : List Value} (h : w.ownsRow base e 1 (.slice A n c) m xs) : n ≤ c := by
  rcases h.2 with ⟨hv, h0⟩ | ⟨g, cap, cur, hv, h1, h2, h3, h4, h5, h6⟩
  · injection hv with _ a b; omega
  · injection hv with _ a b; omega
theorem fl_atO {w : World} {base : Nat} {A : Option Addr} {n c k : Nat} {hs : List HV} (h : OwnFl w base A n c hs) (hk : k < n) :
    ∃ b o f Af cf, (hs.map (·.1))[k]? = some f ∧ A = some ⟨b, o, none⟩ ∧ w.rangeAt b (o + k * 3) (flcells f Af cf).toList ∧ Rd w Af f.data.length (u8s f.data) ∧ f.data.length ≤ cf := by
  have h1 := RdN.of_own h.1
  have hl := h1.1
  rw [flCells_len] at hl
  obtain ⟨b, o, e, hc⟩ := h1.2 (by omega)
  have hg : hs[k]? = some hs[k] := List.getElem?_eq_getElem (by omega)
  refine ⟨b, o, hs[k].1, hs[k].2.1, hs[k].2.2, by rw [List.getElem?_map, hg]; rfl, e, ?_, Rd.of_own (h.2 _ (List.mem_of_getElem? hg)), own_cap (h.2 _ (List.mem_of_getElem? hg))⟩
  intro j u hu
  have hj : j < 3 := by
    have := (List.getElem?_eq_some_iff.1 hu).1
    simpa [flcells] using this
  have := hc (k * 3 + j) u (by rw [flCells_at _ _ _ _ hg hj]; exact hu)
  rwa [← Nat.add_assoc] at this
theorem img_small {d : Dk} (hI : DkInv d) : ∀ f ∈ imgL d, f.data.length ≤ 67108864 := fun f hf => by
  have h1 : f.data.length ≤ sumV (imgL d) := le_sum_mem (List.mem_map.2 ⟨f, hf, rfl⟩)
  have h2 : d.used = (sumV (imgL d) : Nat) := by rw [sumV_img]; exact hI.ok.1
  have := hI.ok.2.1; have := hI.ok.2.2; omega
set_option maxRecDepth 100000 in
set_option maxHeartbeats 16000000 in
theorem simfsLoses_go (room : Int) (A : Option Addr) (fc : Nat) (files : List HV) (A2 : Option Addr) (c : Nat) (ops : List HO) (AK : Option Addr) (nk ck : Nat) (keep : List Int) (w : World) (hroom : IsI64 room)
    (hf : FlRd w A files.length (files.map (·.1))) (hfl : files.length * 48 ≤ 140737488351232) (hfs : ∀ g ∈ files, g.1.data.length ≤ 140737488351232 ∧ IsI64 g.1.safe) (hr : OpsRd w A2 ops) (hl : ops.length * 104 ≤ 140737488351232)
    (hk : Rd w AK nk (ints keep)) (hkl : nk * 8 ≤ 140737488351232) (hki : ∀ x ∈ keep, IsI64 x) :
    Calls Try.prog 10 #[.int .i64 room, .slice A files.length fc, .slice A2 ops.length c, .slice AK nk ck] w fun e w' => e = .returned (.bool true) ∧ Ext w w' := by
  have KH := Lib.hid head_any
  have hfm : ∀ f ∈ files.map (·.1), f.data.length ≤ 140737488351232 ∧ IsI64 f.safe := fun f h => by
    obtain ⟨g, hg, rfl⟩ := List.mem_map.1 h
    exact hfs g hg
  have hfe : (files.map (·.1)).length = files.length := List.length_map _
  have KV := Lib.hid fun (w1 : World) (hx : Ext w w1) => vcopy_any A files.length fc (files.map (·.1)) w1 (hf.ext hx) hfl (fun f h => (hfm f h).1)
  have KM := Lib.hid fun (w1 : World) (A1 : Option Addr) (n1 c1 : Nat) (h : FlRd w1 A1 n1 (files.map (·.1))) => mount_any room A1 n1 c1 (files.map (·.1)) w1 h hfm
  unfold GaveF at KV
  rw [hfe] at KV
  obtain ⟨FL, hFL⟩ : ∃ FL, FL = files.map (·.1) := ⟨_, rfl⟩
  obtain ⟨nf, hnf⟩ : ∃ nf, nf = files.length := ⟨_, rfl⟩
  rw [← hFL, ← hnf] at KV
  rw [← hFL] at KM
  rw [← hnf]
  obtain ⟨dM, eM, hMM⟩ : ∃ dM eM, mountD room FL = (dM, eM) := ⟨_, _, rfl⟩
  rw [hMM] at KM
  unfold MountPost at KM
  dsimp only at KM
  have hal := alloc_op
  have Hr := Lib.hid hr
  have Hk := Lib.hid hk
  clear hf hfs hfm hfe hFL hnf hr hk hfl
  by_cases hE : eM = 0
  · subst hE
    simp only [if_true] at KM
    obtain ⟨hI0, hs0, -⟩ := inv_mountD hMM
    have HI0 := Lib.hid hI0
    clear hMM hI0
    go_enter Try.func10, Try.ntmps10
    go_wp2_with (first
      | (go_at_call 14; (with_reducible refine (KH.out _).mono ?_); rintro e w1 ⟨rfl, hx1⟩)
      | (go_at_call 42; (with_reducible refine (KV.out _ hx1).mono ?_); rintro e w2 ⟨A3, c3, hv3, rfl, hm3, hx2, hown2⟩; have R2 : FlRd w2 A3 nf FL := (by have h2 := hown2.rd; rw [hm3] at h2; exact h2))
      | (go_at_call 41; go_loud ((with_reducible refine (KM.out _ _ _ _ R2).mono ?_); rintro e w3 ⟨g, b, D3, hs3, rfl, hX3⟩)))
    go_loopw [33] (fun c33 wr => ScrR w g b dM.room c33 wr) (fun c33 _ => ops.length - (intOf c33).toNat)
    case atStart => exact ⟨0, dM, D3, hs3, rfl, HI0.out, by rw [hs0]; simp, rfl, hX3.low (hx1.tr hx2)⟩
    case round =>
      obtain ⟨k, d, D, hs, rfl, hI, hst, hrm, hX⟩ := hrel
      have HX := Lib.hid hX
      have Hrm := Lib.hid hrm
      clear hrm
      by_cases hlt : k < ops.length
      · obtain ⟨ob, oo, o, rfl, hok, hc, ho⟩ := op_at (Hr.out.ext hX.ext) hlt
        have Hc := Lib.hid hc
        have Ho := Lib.hid ho
        have HI1 := Lib.hid (inv_call hI o.1 ho.2.2.2.1)
        have hst1 := (callD_steps d o.1).2
        have Hrm1 := Lib.hid (callD_room d o.1)
        have KC := Lib.hid fun (w1 : World) (h : FsX w w1 g d b D hs) (h2 : OpOk w1 o) => call_any w w1 g b d D hs o h hI (by omega) h2
        unfold CallPost at KC
        clear hX hc hok ho
        go_wp2_with (first
          | (change wpList _ _ _ (⟨some 36, _, _, _, _, _⟩ :: _) _ _; refine wpL_load_op rfl (.tmp 35) rfl ob (oo + k * 7) rfl o Hc.out ?_)
          | (change wpList _ _ _ (⟨none, .store _ (.tmp 12) _, _, _, _, _⟩ :: _) _ _; refine wpL_store_new rfl 49 (.tmp 12) (.tmp 36) rfl wr.heap.size 49 (opcells noOp) (opcells o) rfl rfl rfl rfl (opcells_one o) 7 op_wide rfl ?_)
          | (change wpList _ _ _ (⟨some 38, _, _, _, _, _⟩ :: _) _ _; refine wpL_load_row (o := ⟨some 38, _, _, _, _, _⟩) rfl 49 (.tmp 12) rfl wr.heap.size 49 (opcells o) 7 rfl (BlkN rfl) op_wide rfl ?_)
          | (go_at_call 30; go_loud ((with_reducible refine (KC.out _ (HX.out.ext_ (by repeat (first | with_reducible exact Below.refl _ _ | with_reducible assumption | with_reducible refine ExtD ?_ | with_reducible refine ExtDN ?_ | with_reducible refine ExtA ?_ | (with_reducible refine ExtR ?_ ?_; (first | omega | (dsimp only; omega) | (simp; done) | (simp; omega))) | (with_reducible refine ExtS ?_ ?_; (first | omega | (dsimp only; omega) | (simp; done) | (simp; omega))) | with_reducible refine Ext.tr ?_ (by with_reducible assumption)))) (Ho.out.ext (by repeat (first | with_reducible exact Below.refl _ _ | with_reducible assumption | with_reducible refine ExtD ?_ | with_reducible refine ExtDN ?_ | with_reducible refine ExtA ?_ | (with_reducible refine ExtR ?_ ?_; (first | omega | (dsimp only; omega) | (simp; done) | (simp; omega))) | (with_reducible refine ExtS ?_ ?_; (first | omega | (dsimp only; omega) | (simp; done) | (simp; omega))) | with_reducible refine Ext.tr ?_ (by with_reducible assumption))))).mono ?_); rintro e w5 ⟨A5, c5, rfl, ⟨D5, hs5, hX5, ht5, hf5⟩, hown5⟩)))
        go_roundw
        case rel => exact ⟨k + 1, _, D5, hs5, by go_num, HI1.out, by omega, Hrm1.out.trans Hrm.out, hX5⟩
        case measure => simp [intOf]; omega
      · have d3 : decide (k < ops.length) = false := by simpa using hlt
        have KI := Lib.hid fun (w1 : World) (h : FsX w w1 g d b D hs) => imageK h hI
        have KR := Lib.hid fun (w1 : World) (h : FsX w w1 g d b D hs) (AK : Option Addr) (nk ck : Nat) => restartK h hI AK nk ck keep
        have HIR := Lib.hid (inv_restart hI keep)
        have Hat := Lib.hid fun (i : Nat) (f : Fil) (h : (sortF d.files)[i]? = some f) => restart_at (keep := keep) h
        have Hs0 := Lib.hid hI.safe
        have hi2 : (imgL (restartD d keep)).length = (imgL d).length := by rw [restart_img, List.length_map]; unfold restL; rw [List.length_mapIdx]; unfold imgL; rw [List.length_map]
        have hi3 : (restartD d keep).files.length = (imgL d).length := by rw [← imgL_len, hi2]
        have hdn : (restartD d keep).down = false := rfl
        have hcn : (imgL d).length ≤ 700 := by rw [imgL_len]; exact hI.cnt
        have Hnil := Lib.hid (restart_nil (restart_whole hI keep))
        have Hfl := Lib.hid (img_small hI)
        have Hf2 := Lib.hid (img_small (inv_restart hI keep))
        obtain ⟨dR, hdR⟩ : ∃ dR, dR = restartD d keep := ⟨_, rfl⟩
        rw [← hdR] at KR HIR Hat hi2 hi3 hdn Hnil Hf2
        have KJ := Lib.hid fun (w1 : World) (D1 : DataW Value) (hs1 : List HF) (h : FsX w w1 g dR b D1 hs1) => imageK h HIR.out
        have KD := Lib.hid fun (w1 : World) (D1 : DataW Value) (hs1 : List HF) (h : FsX w w1 g dR b D1 hs1) => downK h
        have KL := Lib.hid fun (w1 : World) (D1 : DataW Value) (hs1 : List HF) (h : FsX w w1 g dR b D1 hs1) => listUp h hdn
        have KN := Lib.hid fun (w1 : World) (D1 : DataW Value) (hs1 : List HF) (h : FsX w w1 g dR b D1 hs1) => restartK h HIR.out none 0 0 [] (by omega) (fun w' _ => Rd.nil_ w' none) (fun x hx => by cases hx)
        have HI2 := Lib.hid (inv_restart HIR.out [])
        obtain ⟨d2, hd2⟩ : ∃ d2, d2 = restartD dR [] := ⟨_, rfl⟩
        rw [← hd2] at KN HI2 Hnil
        have KZ := Lib.hid fun (w1 : World) (D1 : DataW Value) (hs1 : List HF) (h : FsX w w1 g d2 b D1 hs1) => imageK h HI2.out
        unfold GaveF at KI KJ KZ
        unfold GaveN at KL
        simp only [hdn] at KD
        rw [Hnil.out, hi2] at KZ
        rw [hi2] at KJ
        rw [hi3] at KL
        have Hlen := Lib.hid (imgL_len d)
        obtain ⟨nI, hnI⟩ : ∃ nI, nI = (imgL d).length := ⟨_, rfl⟩
        rw [← hnI] at KI KJ KL KZ hcn Hlen
        have Hki := Lib.hid hki
        have Hkl := Lib.hid Hk.out.1
        have tnI : ((nI : Int) != nI) = false := by simp
        clear hX hdR hd2 hdn hi2 hi3 hnI hI hki hlt hst hal
        go_wp2_with (first
          | (change wpList _ _ _ (⟨some 46, _, _, _, _, _⟩ :: _) _ _; refine wpI_append (l := []) rfl (.tmp 44) (.tmp 45) rfl w3.heap.size rfl (own_emptyI w3 _ (Nat.le_refl _)) (by simp) rfl (Hk.out.ext (ExtA (HX.out.ext_ hx3).ext)) nk keep (Nat.zero_add _) rfl (by omega) ?_; intro A4 c4 w4 hown4 hg4; have hx4 : Ext w3 w4 := (ExtA (Ext.rfl' w3)).grown hg4 (own_lt (own_emptyI w3 _ (Nat.le_refl _))))
          | (go_at_call 29; (with_reducible refine (KZ.out _ _ _ hX9).mono ?_); rintro e w10 ⟨A10, c10, hv10, rfl, hm10, hx10, hown10⟩)
          | (go_at_call 29; (with_reducible refine (KJ.out _ _ _ hX5).mono ?_); rintro e w6 ⟨A6, c6, hv6, rfl, hm6, hx6, hown6⟩; have hX6 := hX5.ext_ hx6)
          | (go_at_call 29; go_loud ((with_reducible refine (KI.out _ HX.out).mono ?_); rintro e w3 ⟨A3, c3, hv3, rfl, hm3, hx3, hown3⟩))
          | (go_at_call 22; go_loud ((with_reducible refine (KR.out _ (HX.out.ext_ (hx3.tr hx4)) A4 nk c4 (by omega) (fun w' ht => rdI_turn hown4 ht (fun r hr hc => by have := (hown4.lt r hr).1; have := HX.out.lt r hc; have := hx3.size; omega)) Hki.out).mono ?_); rintro e w5 ⟨rfl, D5, hs5, hX5, ht5, hf5⟩))
          | (go_at_call 33; (with_reducible refine (KD.out _ _ _ hX6).mono ?_); rintro e w7 ⟨rfl, hx7⟩; have hX7 := hX6.ext_ hx7)
          | (go_at_call 25; (with_reducible refine (KL.out _ _ _ hX7).mono ?_); rintro e w8 ⟨A8, c8, rfl, hx8, -⟩; have hX8 := hX7.ext_ hx8))
        have hb3 : OwnFl w8 wr.heap.size A3 nI c3 hv3 := (((hown3.ext hx4).turn ht5 (fun r hr => HX.out.lt r hr)).ext hx6).ext (hx7.tr hx8)
        have Hb3 := Lib.hid hb3
        have Hm3 := Lib.hid hm3
        have hb6 : OwnFl w8 w5.heap.size A6 nI c6 hv6 := hown6.ext (hx7.tr hx8)
        have R6 := Lib.hid (show FlRd w8 A6 nI (imgL dR) from by have := hb6.rd; rw [hm6] at this; exact this)
        have Hlt5 := Lib.hid fun r hr => hX5.lt r hr
        have Hb6 := Lib.hid hb6
        have HX8 := Lib.hid hX8
        have Hm6 := Lib.hid hm6
        have Hk8 := Lib.hid (Hk.out.ext ((hX8.ext_ (Ext.rfl' w8)).ext))
        clear hb3 hown3 hm3 hown4 hg4 hX5 ht5 hf5 hm6 hown6 hX6 hX7 hX8 hb6
        go_loopw [69] (fun c69 wr2 => CntR w8 nI c69 wr2) (fun c69 _ => nI - (intOf c69).toNat)
        case atStart => exact ⟨0, by omega, rfl, (by repeat (first | with_reducible exact Below.refl _ _ | with_reducible assumption | with_reducible refine ExtD ?_ | with_reducible refine ExtDN ?_ | with_reducible refine ExtA ?_ | (with_reducible refine ExtR ?_ ?_; (first | omega | (dsimp only; omega) | (simp; done) | (simp; omega))) | (with_reducible refine ExtS ?_ ?_; (first | omega | (dsimp only; omega) | (simp; done) | (simp; omega))) | with_reducible refine Ext.tr ?_ (by with_reducible assumption)))⟩
        case round =>
          obtain ⟨j, hj, rfl, hx⟩ := hrel
          by_cases hlj : j < nI
          · obtain ⟨bw, ow, fw, Aw, cw, hfw, rfl, hcw, hrw, hqw⟩ := fl_atO (Hb3.out.ext hx) hlj
            rw [Hm3.out] at hfw
            obtain ⟨bi, oi, fi, Ai, ci, hfi, rfl, hci, hri⟩ := fl_at (R6.out.ext hx) hlj
            obtain ⟨f, hf⟩ : ∃ f, (sortF d.files)[j]? = some f := ⟨_, List.getElem?_eq_getElem (by rw [sortF_len, ← Hlen.out]; exact hlj)⟩
            have hfw2 : (imgL d)[j]? = some f.fv := by unfold imgL; rw [List.getElem?_map, hf]; rfl
            have hfi2 := Hat.out j f hf
            obtain rfl : fw = f.fv := by rw [hfw2] at hfw; injection hfw with h; exact h.symm
            obtain rfl : fi = (restF keep j f).fv := by rw [hfi2] at hfi; injection hfi with h; exact h.symm
            have hle := Hs0.out f ((sortF_perm _).mem_iff.1 (List.mem_of_getElem? hf))
            have hkl := restK_le (keep := keep) (i := j) hle
            have hbl := Hfl.out _ (List.mem_of_getElem? hfw2)
            unfold Fil.fv at hcw hrw hci hri hbl hqw
            unfold restF at hci hri
            obtain ⟨fn, fd, fsf⟩ := f
            obtain ⟨kk, hkk⟩ : ∃ kk, kk = restK keep j ⟨fn, fd, fsf⟩ := ⟨_, rfl⟩
            rw [← hkk] at hci hri hkl
            unfold flcells at hci hcw
            dsimp only at hcw hrw hci hri hbl hkl hle hqw
            have c0 := hcw 0 _ rfl
            have c1 := hcw 1 _ rfl
            have c2 := hcw 2 _ rfl
            have d0 := hci 0 _ rfl
            have d1 := hci 1 _ rfl
            have d2 := hci 2 _ rfl
            have htk : (fd.take (fsf + kk)).length = fsf + kk := by rw [List.length_take]; omega
            have hrt := rd_take hrw (k := fsf + kk) hkl
            obtain ⟨ni, hni⟩ : ∃ ni, ni = fsf + kk := ⟨_, rfl⟩
            obtain ⟨nw, hnw⟩ : ∃ nw, nw = fd.length := ⟨_, rfl⟩
            rw [htk, ← hni] at d1 hri
            rw [← hni] at d2 hkl hrt
            rw [← hnw] at c1 hkl hbl hle hqw
            simp only [Nat.add_zero] at c0 d0
            have Hsm : Hid (∀ d, Calls Try.prog 24 #[.slice Ai ni ci, .slice Aw ni cw] (wr.drewN d) fun e w' => e = .returned (.bool true) ∧ ∃ m, w' = (wr.drewN d).drewN m) :=
              Lib.hid fun d => by have := same_q Ai Aw ni ci ni cw (fd.take ni) (fd.take ni) (wr.drewN d) (drawn_keep hri) (drawn_keep hrt) (by simp only [maxLen]; omega); simpa using this
            have hsl := fun W => slice_hi Aw nw cw ni hkl hqw W
            have hnn : (fn.toList != fn.toList) = false := by simp
            have hn2 : ((ni : Int) != ni) = false := by simp
            have hn3 : decide (ni < fsf) = false := by simp; omega
            have hn4 : decide (nw < ni) = false := by simp; omega
            have hkk2 := Lib.hid hkk
            have Hni := Lib.hid hni
            have Hnw := Lib.hid hnw
            clear hni hcw hrw hci hri hfw hfi hfw2 hfi2 hf htk hrt hkk hnw
            go_wp2_with fail
            go_quiet ((go_at_call 24; exact quiet_at (Hsm.out _)))
            clear hsl hnn hn2 hn3 hn4 hqw c0 d0 d1
            by_cases hjk : j < nk
            · obtain ⟨bk, ok, rfl, ek⟩ := (Hk8.out.ext hx).at_ hjk
              have hkn : nk = keep.length := by have := Hk.out.1; rw [ints_len] at this; exact this.symm
              obtain ⟨x, hxk⟩ : ∃ x, keep[j]? = some x := ⟨_, List.getElem?_eq_getElem (by omega)⟩
              have hgd : (ints keep).getD j undef = .int .i64 x := by unfold ints; rw [List.getD_eq_getElem?_getD, List.getElem?_map, hxk]; rfl
              rw [hgd] at ek
              have hgx : keep.getD j 0 = x := by rw [List.getD_eq_getElem?_getD, hxk]; rfl
              have hkv : kk = min x.toNat (nw - fsf) := by rw [hkk2.out]; unfold restK; rw [if_pos (by omega), hgx, Hnw.out]
              have Hkn := Lib.hid hkn
              clear hkn hgd hgx hxk
              by_cases hx0 : 0 < x
              · have hq : ((ni : Int) != fsf + min x ((nw : Int) - fsf)) = false := by have := Hni.out; simp; omega
                clear hkv hkl
                go_wp2_with fail
                go_quiet (fail)
                go_wp2_with fail
                exact ⟨⟨j + 1, by omega, by go_num, (by repeat (first | with_reducible exact Below.refl _ _ | with_reducible assumption | with_reducible refine ExtD ?_ | with_reducible refine ExtDN ?_ | with_reducible refine ExtA ?_ | (with_reducible refine ExtR ?_ ?_; (first | omega | (dsimp only; omega) | (simp; done) | (simp; omega))) | (with_reducible refine ExtS ?_ ?_; (first | omega | (dsimp only; omega) | (simp; done) | (simp; omega))) | with_reducible refine Ext.tr ?_ (by with_reducible assumption)))⟩, by simp [intOf]; omega⟩
              · obtain rfl : ni = fsf := by have := Hni.out; omega
                have hq : ((ni : Int) != ni) = false := by simp
                have hx1 : decide (0 < x) = false := by simpa using hx0
                clear hkv
                go_wp2_with fail
                exact ⟨⟨j + 1, by omega, by go_num, (by repeat (first | with_reducible exact Below.refl _ _ | with_reducible assumption | with_reducible refine ExtD ?_ | with_reducible refine ExtDN ?_ | with_reducible refine ExtA ?_ | (with_reducible refine ExtR ?_ ?_; (first | omega | (dsimp only; omega) | (simp; done) | (simp; omega))) | (with_reducible refine ExtS ?_ ?_; (first | omega | (dsimp only; omega) | (simp; done) | (simp; omega))) | with_reducible refine Ext.tr ?_ (by with_reducible assumption)))⟩, by simp [intOf]; omega⟩
            · have hkv : kk = 0 := by rw [hkk2.out]; unfold restK; rw [if_neg (by have := Hk.out.1; rw [ints_len] at this; omega)]
              obtain rfl : ni = fsf := by have := Hni.out; omega
              have hq : ((ni : Int) != ni) = false := by simp
              have hj1 : decide (j < nk) = false := by simpa using hjk
              clear hkv
              go_wp2_with fail
              exact ⟨⟨j + 1, by omega, by go_num, (by repeat (first | with_reducible exact Below.refl _ _ | with_reducible assumption | with_reducible refine ExtD ?_ | with_reducible refine ExtDN ?_ | with_reducible refine ExtA ?_ | (with_reducible refine ExtR ?_ ?_; (first | omega | (dsimp only; omega) | (simp; done) | (simp; omega))) | (with_reducible refine ExtS ?_ ?_; (first | omega | (dsimp only; omega) | (simp; done) | (simp; omega))) | with_reducible refine Ext.tr ?_ (by with_reducible assumption)))⟩, by simp [intOf]; omega⟩
          · obtain rfl : j = nI := by omega
            go_wp2_with (first
              | (go_at_call 22; go_loud ((with_reducible refine (KN.out _ _ _ (HX8.out.ext_ hx)).mono ?_); rintro e w9 ⟨rfl, D9, hs9, hX9, ht9, hf9⟩))
              | (go_at_call 29; go_loud ((with_reducible refine (KZ.out _ _ _ hX9).mono ?_); rintro e w10 ⟨A10, c10, hv10, rfl, hm10, hx10, hown10⟩; have R10 : FlRd w10 A10 j (imgL dR) := (by have h2 := hown10.rd; rw [hm10] at h2; exact h2); have R6' : FlRd w10 A6 j (imgL dR) := (by have h2 := (((Hb6.out.ext hx).turn ht9 (fun r hr => Hlt5.out r hr)).ext hx10).rd; rw [Hm6.out] at h2; exact h2)))
              | (go_at_call 32; go_loud ((with_reducible refine (fsame_yes A10 A6 j c10 c6 (imgL dR) w10 R10 R6' (by simp only [maxLen]; omega) (fun f hf => by have := Hf2.out f hf; simp only [maxLen]; omega)).mono ?_); rintro e w11 ⟨rfl, hx11⟩)))
            go_ret
            exact ⟨rfl, hX9.ext.tr (hx10.tr hx11)⟩
  · simp only [hE, if_false] at KM
    have t1 : ((eM : Int) != 0) = true := by simp; omega
    clear hMM
    go_enter Try.func10, Try.ntmps10
    go_wp2_with (first
      | (go_at_call 14; (with_reducible refine (KH.out _).mono ?_); rintro e w1 ⟨rfl, hx1⟩)
      | (go_at_call 42; (with_reducible refine (KV.out _ hx1).mono ?_); rintro e w2 ⟨A3, c3, hv3, rfl, hm3, hx2, hown2⟩; have R2 : FlRd w2 A3 nf FL := (by have h2 := hown2.rd; rw [hm3] at h2; exact h2))
      | (go_at_call 41; go_loud ((with_reducible refine (KM.out _ _ _ _ R2).mono ?_); rintro e w3 ⟨rfl, hx3⟩)))
    go_ret
    exact ⟨rfl, (hx1.tr hx2).tr hx3⟩
theorem simfsLoses_walk (room : Int) (A : Option Addr) (fc : Nat) (files : List HV) (A2 : Option Addr) (c : Nat) (ops : List HO) (z : HI) (w : World) (hroom : IsI64 room)
    (hf : FlRd w A files.length (files.map (·.1))) (hfl : files.length * 48 ≤ 140737488351232) (hfs : ∀ g ∈ files, g.1.data.length ≤ 140737488351232 ∧ IsI64 g.1.safe) (hr : OpsRd w A2 ops) (hl : ops.length * 104 ≤ 140737488351232)
    (hk : Rd w z.2.1 z.1.length (ints z.1)) (hkl : z.1.length * 8 ≤ 140737488351232) (hki : ∀ x ∈ z.1, IsI64 x) :
    Calls Try.prog 10 #[.int .i64 room, .slice A files.length fc, .slice A2 ops.length c, .slice z.2.1 z.1.length z.2.2] w fun e w' => e = .returned (.bool true) ∧ Ext w w' :=
  simfsLoses_go room A fc files A2 c ops z.2.1 z.1.length z.2.2 z.1 w hroom hf hfl hfs hr hl hk hkl hki
end Go.Proofs.Ytomnllkliifeoaa
