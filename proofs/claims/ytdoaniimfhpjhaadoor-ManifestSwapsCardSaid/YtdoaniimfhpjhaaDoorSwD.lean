/-
  The walk of ManifestSwaps. (Written by wip/tools/gen_swd.py.)
-/
/-
  The walk of ManifestSwaps. (Written by wip/tools/gen_swe.py.)
-/
import Derived.Test.YtdoaniimfhpjhaaDoorSwB
import Derived.Test.YtdoaniimfhpjhaaDoorSwC
import Derived.Test.YtdoaniimfhpjhaaDoorManH
import Derived.Test.YtdoaniimfhpjhaaDoorManM
namespace Go.Proofs.YtdoaniimfhpjhaaDoor
open Go.RowKit
set_option linter.unusedVariables false
set_option linter.unusedSimpArgs false
open Go.Maps
theorem manB_of {m : Mf} (h : (manE m).2 = 0) : manB m = true := by
  cases hb : manB m with
  | true => rfl
  | false => rw [manE_bad hb] at h; cases h
theorem sw_load {d : Dk} {m : Mf} (hI : DkInv d) (h : HasM d (manE m).1) (hm : manB m = true) (keep : List Int) : ∃ d', loadD (restartD d keep) = (d', m, true, 0) := by
  have hf := restart_safe hI h rfl keep
  obtain ⟨h1, d', h2, _⟩ := file_read (inv_restart hI keep) rfl hf rM
  dsimp only at h1 h2
  refine ⟨d', ?_⟩
  unfold loadD
  rw [h1, if_neg (by simp), if_neg (by simp)]
  dsimp only
  rw [h2, if_neg (by rw [manD_enc hm]; simp), manD_enc hm]
theorem sw_saved {d : Dk} {l x : Mf} (hI : DkInv d) (h : HasM d (manE l).1) (hl : manB l = true) : ∃ mm, manB mm = true ∧ HasM (saveD d x).1 (manE mm).1 ∧ (((saveD d x).2 = 0 ∧ mm = x) ∨ ((saveD d x).2 ≠ 0 ∧ mm = l)) := by
  unfold saveD
  by_cases hE : (manE x).2 = 0
  · rw [if_neg (by simp [hE])]
    obtain ⟨h1, h2⟩ := sv_swap (b := (manE x).1) hI h
    by_cases h0 : (sv4 d (manE x).1).2 = 0
    · exact ⟨x, manB_of hE, h1 h0, .inl ⟨h0, rfl⟩⟩
    · exact ⟨l, hl, h2 h0, .inr ⟨h0, rfl⟩⟩
  · rw [if_pos hE]
    exact ⟨l, hl, h, .inr ⟨hE, rfl⟩⟩
theorem saveD_inv {d : Dk} (h : DkInv d) (m : Mf) : DkInv (saveD d m).1 := by
  unfold saveD
  split
  · exact h
  · exact (sv_inv h _).2.2.2
/-- The disk behind the saves that go well. -/
def dSv (m : Mf) (k : Int) : Dk := ⟨[⟨nmM, (manE m).1, (manE m).1.length⟩], 1048576, ((manE m).1.length : Nat), k, 0, 0, false⟩
theorem sw_first : saveD (newD 1048576) m1 = (dSv m1 4, 0) := by
  unfold saveD
  rw [if_neg (by rw [m1_err]; simp), sv_free (d := newD 1048576) rfl rfl (.inl rfl) rfl (by rw [m1_len]; decide)]
  rfl
theorem sw_second {m : Mf} (h : manB m = true) : saveD (dSv m1 4) m = (dSv m 8, 0) := by
  unfold saveD
  have hl := manE_len m
  rw [if_neg (by rw [manE_ok h]; simp), sv_free (d := dSv m1 4) rfl rfl (.inr ⟨_, rfl⟩) (by simp [dSv, sumF]) (by unfold dSv; dsimp only; rw [m1_len]; omega)]
  rfl
theorem sw_inv : DkInv (dSv m1 4) := by have := saveD_inv (inv_new 1048576) m1; rw [sw_first] at this; exact this
theorem sw_inv2 {m : Mf} (h : manB m = true) : DkInv (dSv m 8) := by have := saveD_inv sw_inv m; rw [sw_second h] at this; exact this
def dFz (m : Mf) (k n : Int) : Dk := { dSv m k with fuse := max 0 n }
theorem sw_all {l x : Mf} {k n : Int} (hl : manB l = true) (hi : DkInv (dSv l k)) (hn : n ≤ 9223372036854775807) (keep : List Int) :
    DkInv (dFz l k n) ∧ DkInv (saveD (dFz l k n) x).1 ∧ ∃ mm d', loadD (restartD (saveD (dFz l k n) x).1 keep) = (d', mm, true, 0) ∧ (((saveD (dFz l k n) x).2 = 0 ∧ mm = x) ∨ ((saveD (dFz l k n) x).2 ≠ 0 ∧ mm = l)) := by
  have h1 : DkInv (dFz l k n) := inv_fuse hi n hn
  have h2 := saveD_inv h1 x
  obtain ⟨mm, h3, h4, h5⟩ := sw_saved (x := x) h1 (l := l) (by unfold HasM; simp [dFz, dSv]) hl
  obtain ⟨d', h6⟩ := sw_load h2 h4 h3 keep
  exact ⟨h1, h2, mm, d', h6, h5⟩
end Go.Proofs.YtdoaniimfhpjhaaDoor

namespace Go.Proofs.YtdoaniimfhpjhaaDoor
open Go.RowKit
set_option linter.unusedVariables false
set_option linter.unusedSimpArgs false
open Go.Maps
set_option maxRecDepth 100000 in
set_option maxHeartbeats 2000000 in
theorem mfirst_blk (w : World) : Calls Tryd.prog 7 #[] w fun e w' => ∃ p, e = .returned (.agg #[.int .i64 1, .int .i64 2, .int .i64 0, .int .i64 0, .int .i64 0, .slice (some ⟨p, 0, none⟩) 1 1]) ∧ Ext w w' ∧ w.heap.size ≤ p ∧ Blk w' p 55 (sgcells ⟨1, 1, 0, 0⟩) := by
  go_enter Tryd.func7, Tryd.ntmps7
  go_wp2_with (with_reducible refine wpL_store_row rfl 24 (.tmp 0) (.tmp 3) rfl _ 24 _ _ rfl rfl (BlkA (BlkN rfl)) ((mf_size' _ _ _ _ _ _ _ _).trans (mf_size' _ _ _ _ _ _ _ _).symm) (mf_one' _ _ _ _ _ _ _ _) 6 mf_wide (mf_size' _ _ _ _ _ _ _ _) ?_)
  (try simp only [Exit.inBlock, Exit.then]); refine bodyPost_ret (v := .agg #[.int .i64 1, .int .i64 2, .int .i64 0, .int .i64 0, .int .i64 0, .slice (some ⟨w.heap.size + 1, 0, none⟩) 1 1]) (res_row rfl _ _ w.heap.size 24 _ 6 rfl (Blk.setRow_ (BlkA (BlkN rfl))) mf_wide rfl) rfl ?_
  have hb : Blk ((w.alloc (.cells #[.int .i64 0, .int .i64 0, .int .i64 0, .int .i64 0, .int .i64 0, .slice none 0 0] 24)).alloc (.cells #[.int .i64 1, .int .i64 1, .int .i64 0, .int .i64 0] 55)) (w.heap.size + 1) 55 (sgcells ⟨1, 1, 0, 0⟩) := BlkN (by simp)
  exact ⟨_, rfl, (by repeat (first | with_reducible exact Below.refl _ _ | with_reducible assumption | with_reducible refine ExtD ?_ | with_reducible refine ExtDN ?_ | with_reducible refine ExtA ?_ | (with_reducible refine ExtR ?_ ?_; (first | omega | (dsimp only; omega) | (simp; done) | (simp; omega))) | (with_reducible refine ExtS ?_ ?_; (first | omega | (dsimp only; omega) | (simp; done) | (simp; omega))) | with_reducible refine Ext.tr ?_ (by with_reducible assumption))), by omega, BlkR (by omega) hb⟩
set_option maxRecDepth 100000 in
set_option maxHeartbeats 8000000 in
theorem manifestSwaps_walk (o x : Mf) (A A2 : Option Addr) (c c2 : Nat) (n : Int) (AK : Option Addr) (nk ck : Nat) (keep : List Int) (w : World) (hN : Nib w) (hr : SgRd w A o.segs) (hw : MfWf o) (hr2 : SgRd w A2 x.segs) (hw2 : MfWf x) (hn : IsI64 n)
    (hrk : Rd w AK nk (ints keep)) (hnk : nk * 8 ≤ 140737488351232) (hki : ∀ y ∈ keep, IsI64 y) :
    Calls Tryd.prog 3 #[.agg (mfcells o A c), .agg (mfcells x A2 c2), .int .i64 n, .slice AK nk ck] w fun e w' => e = .returned (.bool true) ∧ Ext w w' := by
  have HR := Lib.hid hr
  have HR2 := Lib.hid hr2
  have Hrk := Lib.hid hrk
  have HN := Lib.hid hN
  have Hki := Lib.hid hki
  have hkl : keep.length = nk := by have := hrk.1; unfold ints at this; rw [List.length_map] at this; exact this
  have hlo := hw.2.1
  have hlx := hw2.2.1
  have hno := hw.1.2.1
  have hnx := hw2.1.2.1
  have hn2 := hn.2
  have K0 := Lib.hid fun W (hx : Ext w W) => mhead_any W (hN.ext hx)
  have KFi := Lib.hid fun W => mfirst_any W
  have KFo := Lib.hid fun W => mfirst_blk W
  have KN := Lib.hid (newK 1048576)
  have KC1 := Lib.hid fun W (h : SgRd W A o.segs) => mcopy_any o A c W h (by omega)
  have KC2 := Lib.hid fun W (h : SgRd W A2 x.segs) => mcopy_any x A2 c2 W h (by omega)
  have KV := Lib.hid fun B e W (h : SgRd W B o.segs) => mvalid_any o B e W h hlo hno
  unfold McPost at KC1 KC2
  have KSa := Lib.hid fun B W w1 g b D hs (h : FsX W w1 g (newD 1048576) b D hs) (hx : Ext w w1) (hs1 : SgRd w1 B [⟨1, 1, 0, 0⟩]) => (show Calls Tryd.prog 6 #[.pointer (some ⟨g, 0, none⟩), .agg #[.int .i64 1, .int .i64 2, .int .i64 0, .int .i64 0, .int .i64 0, .slice B 1 1]] w1 (fun e w' => e = .returned (.int .i64 0) ∧ FsTo W w1 w' g b hs (dSv m1 4)) from by
    have := save_any m1 B 1 W w1 g b (newD 1048576) D hs h (inv_new _) (by decide) (hN.ext hx) hs1 (by decide) m1_mi
    rw [sw_first] at this
    exact this)
  have Hkl := Lib.hid hkl
  clear hN hr hw hr2 hw2 hrk hki hn hkl
  cases hv : manB o with
  | true =>
    have hall := sw_all (x := x) (n := n) hv (sw_inv2 hv) hn2 keep
    obtain ⟨i1, i2, mm, d', hld, hres⟩ := hall
    have i3 := inv_restart i2 keep
    have hst : (dFz o 8 n).steps = 8 := rfl
    have KF := Lib.hid fun W w1 g b D hs (h : FsX W w1 g (dSv o 8) b D hs) => (show Calls Tryd.prog 10 #[.pointer (some ⟨g, 0, none⟩), .int .i64 n] w1 (fun e w' => e = .returned (.tuple #[]) ∧ FsTo W w1 w' g b hs (dFz o 8 n)) from fuseK h n)
    have KSc := Lib.hid fun B e W w1 g b D hs (h : FsX W w1 g (dFz o 8 n) b D hs) (hx : Ext w w1) (hs1 : SgRd w1 B x.segs) => save_any x B e W w1 g b (dFz o 8 n) D hs h i1 (by omega) (HN.out.ext hx) hs1 hlx hnx
    obtain ⟨d1, hd1⟩ : ∃ d1, d1 = (saveD (dFz o 8 n) x).1 := ⟨_, rfl⟩
    obtain ⟨E1, hE1⟩ : ∃ E1, E1 = (saveD (dFz o 8 n) x).2 := ⟨_, rfl⟩
    rw [← hd1, ← hE1] at KSc
    rw [← hd1] at i2 i3 hld
    rw [← hE1] at hres
    have KU := Lib.hid fun W w1 g b D hs B e (h : FsX W w1 g d1 b D hs) hr => restartK h i2 B nk e keep (by omega) hr Hki.out
    have KL := Lib.hid fun W w1 g b D hs (h : FsX W w1 g (restartD d1 keep) b D hs) (hx : Ext w W) => load_any W w1 g b _ D hs h i3 (HN.out.ext hx)
    rw [hld] at KL
    unfold LdPost at KL
    have HRes := Lib.hid hres
    have KSo := Lib.hid fun B e B2 e2 W (h : SgRd W B x.segs) (h2 : SgRd W B2 x.segs) => msame_any x B B2 e e2 W h h2 (by omega)
    unfold mfcells at KC1 KC2 KV KSc KL KSo ⊢
    clear hd1 hE1 hld hres i1 i2 i3 hst
    have KSb := Lib.hid fun B e W w1 g b D hs (h : FsX W w1 g (dSv m1 4) b D hs) (hx : Ext w w1) (hs1 : SgRd w1 B o.segs) => save_any o B e W w1 g b (dSv m1 4) D hs h sw_inv (by decide) (HN.out.ext hx) hs1 hlo hno
    rw [sw_second hv] at KSb
    rw [hv] at KV
    unfold mfcells at KSb
    clear hv
    go_enter Tryd.func3, Tryd.ntmps3
    go_upto_region 7 with (first
      | (go_at_call 4; (with_reducible refine (K0.out _ (by repeat (first | with_reducible exact Below.refl _ _ | with_reducible assumption | with_reducible refine ExtD ?_ | with_reducible refine ExtDN ?_ | with_reducible refine ExtA ?_ | (with_reducible refine ExtR ?_ ?_; (first | omega | (dsimp only; omega) | (simp; done) | (simp; omega))) | (with_reducible refine ExtS ?_ ?_; (first | omega | (dsimp only; omega) | (simp; done) | (simp; omega))) | with_reducible refine Ext.tr ?_ (by with_reducible assumption)))).mono ?_); rintro e w1 ⟨rfl, hx1⟩; have hX1 : Ext w w1 := Ext.tr (by repeat (first | with_reducible exact Below.refl _ _ | with_reducible assumption | with_reducible refine ExtD ?_ | with_reducible refine ExtDN ?_ | with_reducible refine ExtA ?_ | (with_reducible refine ExtR ?_ ?_; (first | omega | (dsimp only; omega) | (simp; done) | (simp; omega))) | (with_reducible refine ExtS ?_ ?_; (first | omega | (dsimp only; omega) | (simp; done) | (simp; omega))) | with_reducible refine Ext.tr ?_ (by with_reducible assumption))) hx1; have b4 : Blk w1 w.heap.size 24 #[.int .i64 o.gen, .int .i64 o.next, .int .i64 o.floor, .int .i64 o.snap, .int .i64 o.snapSeq, .slice A o.segs.length c] := BlkE (BlkA (BlkN rfl)) hx1; have b5 : Blk w1 (w.heap.size + 1) 24 #[.int .i64 x.gen, .int .i64 x.next, .int .i64 x.floor, .int .i64 x.snap, .int .i64 x.snapSeq, .slice A2 x.segs.length c2] := BlkE (BlkN (by simp)) hx1)
      | (go_at_call 5; go_loud ((with_reducible refine (KN.out _).mono ?_); rintro e w2 ⟨g, b, rfl, hD2⟩))
      | (go_at_call 7; (with_reducible refine (KFi.out w2).mono ?_); rintro e w3 ⟨B3, rfl, hx3, hs3⟩; have hD3 := hD2.ext_ hx3)
      | (go_at_call 6; (with_reducible refine (KSa.out B3 _ _ _ _ _ _ hD3 (hX1.tr hD3.ext) hs3).mono ?_); rintro e w4 ⟨rfl, D4, hs4, hD4, -, -⟩)
      | (go_at_call 7; (with_reducible refine (KFi.out w4).mono ?_); rintro e w5 ⟨B5, rfl, hx5, hs5⟩; have hD5 := hD4.ext_ hx5)
      | (with_reducible refine wpL_store_row rfl 24 (.tmp 10) (.tmp 26) rfl _ 24 _ _ rfl rfl (BlkN rfl) ((mf_size' _ _ _ _ _ _ _ _).trans (mf_size' _ _ _ _ _ _ _ _).symm) (mf_one' _ _ _ _ _ _ _ _) 6 mf_wide (mf_size' _ _ _ _ _ _ _ _) ?_))
    obtain ⟨W6, hW6⟩ : ∃ W6, W6 = (w5.alloc (.cells #[.int .i64 0, .int .i64 0, .int .i64 0, .int .i64 0, .int .i64 0, .slice none 0 0] 24)).setRow w5.heap.size #[.int .i64 1, .int .i64 2, .int .i64 0, .int .i64 0, .int .i64 0, .slice B5 1 1] := ⟨_, rfl⟩
    have hx6 : Ext w5 W6 := by rw [hW6]; exact ExtR (Nat.le_refl _) (ExtA (Ext.rfl' _))
    have b10 : Blk W6 w5.heap.size 24 #[.int .i64 1, .int .i64 2, .int .i64 0, .int .i64 0, .int .i64 0, .slice B5 1 1] := by rw [hW6]; exact Blk.setRow_ (BlkN rfl)
    have hDt := hD5.ext_ hx6
    have np : w5.heap.size ∉ foot g b hs4 := fun hc => by have := hD5.lt _ hc; omega
    have lp : w1.heap.size ≤ w5.heap.size := hD5.ext.size
    have hs5' := (hs5.ext hx6)
    rw [← hW6]
    obtain ⟨q, hq⟩ : ∃ q, q = w5.heap.size := ⟨_, rfl⟩
    rw [← hq] at b10 np lp ⊢
    have B41 := Lib.hid b4
    have B51 := Lib.hid b5
    have b4 := BlkE b4 hDt.ext
    have hXt := hX1.tr hDt.ext
    have lq : w.heap.size ≠ q := by have := B41.out.lt; omega
    clear hq hW6 hx6
    go_upto_region 11 with (first
      | (with_reducible refine wpL_load_row rfl 24 (.tmp 4) rfl _ 24 _ 6 rfl b4 mf_wide (mf_size' _ _ _ _ _ _ _ _) ?_)
      | (go_at_call 9; (with_reducible refine (KC1.out _ (HR.out.ext hXt)).mono ?_); rintro e w7 ⟨A7, c7, rfl, hx7, ho7⟩; have b4 := BlkE b4 hx7; have b10 := BlkE b10 hx7; have hXt := hXt.tr hx7; have hDt := hDt.ext_ hx7)
      | (go_at_call 8; (with_reducible refine (KV.out _ _ _ (OwnSg.rd ho7)).mono ?_); rintro e w8 ⟨rfl, hx8⟩; have b4 := BlkE b4 hx8; have b10 := BlkE b10 hx8; have hXt := hXt.tr hx8; have hDt := hDt.ext_ hx8)
      | (go_at_call 6; (with_reducible refine (KSb.out _ _ _ _ _ _ _ _ hDt hXt (OwnSg.rd ho7)).mono ?_); rintro e w10 ⟨rfl, D10, hs10, hD10, hT10, hF10⟩; have b4 := BlkE B41.out hD10.ext; have np10 := FsTo.off (W := w1) (w' := w10) hF10 np b10.lt; have b10 := hT10.blk b10 np)
      | (with_reducible refine wpL_store_row rfl 24 (.tmp 10) (.tmp 35) rfl _ 24 _ _ rfl rfl b10 ((mf_size' _ _ _ _ _ _ _ _).trans (mf_size' _ _ _ _ _ _ _ _).symm) (mf_one' _ _ _ _ _ _ _ _) 6 mf_wide (mf_size' _ _ _ _ _ _ _ _) ?_))
    have hDt := hD10.keepM (F := [q]) (turnRow (g := q) (cs := #[.int .i64 o.gen, .int .i64 o.next, .int .i64 o.floor, .int .i64 o.snap, .int .i64 o.snapSeq, .slice A o.segs.length c]) (List.mem_singleton.2 rfl)) (fun r hr => by rw [List.mem_singleton.1 hr]; exact np10) (fun r hr => by rw [List.mem_singleton.1 hr]; exact lp)
    have b10 := Blk.setRow_ (ds := #[.int .i64 o.gen, .int .i64 o.next, .int .i64 o.floor, .int .i64 o.snap, .int .i64 o.snapSeq, .slice A o.segs.length c]) b10
    have np := np10
    have b5 := BlkE B51.out hDt.ext
    go_upto_region 15 with (first
      | (go_at_call 10; go_loud ((with_reducible refine (KF.out _ _ _ _ _ _ hDt).mono ?_); rintro e w12 ⟨rfl, D12, hs12, hD12, hT12, hF12⟩; have b5 := BlkE B51.out hD12.ext; have np12 := FsTo.off (W := w1) (w' := w12) hF12 np b10.lt; have b10 := hT12.blk b10 np))
      | (with_reducible refine wpL_load_row rfl 24 (.tmp 5) rfl _ 24 _ 6 rfl b5 mf_wide (mf_size' _ _ _ _ _ _ _ _) ?_)
      | (go_at_call 9; (with_reducible refine (KC2.out _ (HR2.out.ext (hX1.tr hD12.ext))).mono ?_); rintro e w13 ⟨A13, c13, rfl, hx13, ho13⟩; have hD13 := hD12.ext_ hx13; have b10 := BlkE b10 hx13)
      | (go_at_call 6; go_loud ((with_reducible refine (KSc.out _ _ _ _ _ _ _ _ hD13 (hX1.tr hD13.ext) (OwnSg.rd ho13)).mono ?_); rintro e w14 ⟨rfl, D14, hs14, hD14, hT14, hF14⟩; have np14 := FsTo.off (W := w1) (w' := w14) hF14 np12 b10.lt; have b10 := hT14.blk b10 np12))
      | (at_builtin; go_loud (refine wpI_append rfl (.tmp 44) (.tmp 45) rfl w14.heap.size rfl (own_emptyI w14 _ (Nat.le_refl _)) (by simp) rfl (Hrk.out.ext (ExtA (hX1.tr hD14.ext))) nk keep (Nat.zero_add _) rfl (by omega) ?_; intro A15 c15 w15 hown15 hg15; have hx15 : Ext w14 w15 := (ExtA (Ext.rfl' w14)).grown hg15 (own_lt (own_emptyI w14 _ (Nat.le_refl _))); have hD15 := hD14.ext_ hx15; have b10 := BlkE b10 hx15))
      | (go_at_call 11; go_loud ((with_reducible refine (KU.out _ _ _ _ _ _ _ _ hD15 (fun w' ht => rdI_turn hown15 ht (own_off hD14 hown15))).mono ?_); rintro e w16 ⟨rfl, D16, hs16, hD16, hT16, hF16⟩; have np16 := FsTo.off (W := w1) (w' := w16) hF16 np14 b10.lt; have b10 := hT16.blk b10 np14))
      | (go_at_call 12; go_loud ((with_reducible refine (KL.out _ _ _ _ _ _ hD16 hX1).mono ?_); rintro e w17 ⟨A17, c17, rfl, ⟨D17, hs17, hD17, hT17, hF17⟩, ho17⟩; have b10 := hT17.blk b10 np16))
      | (with_reducible refine wpL_store_row rfl 24 (.tmp 12) (.tmp 51) rfl _ 24 _ _ rfl rfl (BlkN rfl) ((mf_size' _ _ _ _ _ _ _ _).trans (mf_size' _ _ _ _ _ _ _ _).symm) (mf_one' _ _ _ _ _ _ _ _) 6 mf_wide (mf_size' _ _ _ _ _ _ _ _) ?_))
    obtain ⟨W18, hW18⟩ : ∃ W18, W18 = (w17.alloc (.cells #[.int .i64 0, .int .i64 0, .int .i64 0, .int .i64 0, .int .i64 0, .slice none 0 0] 24)).setRow w17.heap.size #[.int .i64 mm.gen, .int .i64 mm.next, .int .i64 mm.floor, .int .i64 mm.snap, .int .i64 mm.snapSeq, .slice A17 mm.segs.length c17] := ⟨_, rfl⟩
    have hx18 : Ext w17 W18 := by rw [hW18]; exact ExtR (Nat.le_refl _) (ExtA (Ext.rfl' _))
    have b12 : Blk W18 w17.heap.size 24 #[.int .i64 mm.gen, .int .i64 mm.next, .int .i64 mm.floor, .int .i64 mm.snap, .int .i64 mm.snapSeq, .slice A17 mm.segs.length c17] := by rw [hW18]; exact Blk.setRow_ (BlkN rfl)
    have hX18 : Ext w W18 := hX1.tr (hD17.ext.tr hx18)
    have b5 := BlkE B51.out (hD17.ext.tr hx18)
    have b10 := BlkE b10 hx18
    have s17 := (OwnSg.rd ho17).ext hx18
    rw [← hW18]
    have HX18 := Lib.hid hX18
    have S17 := Lib.hid s17
    clear hW18 s17
    rcases HRes.out with ⟨he, hm⟩ | ⟨he, hm⟩
    · subst he hm
      have KSx := Lib.hid (KSo.out _ c17 _ c2 W18 S17.out (HR2.out.ext HX18.out))
      clear HRes KSo
      go_wp2_with (first
        | (with_reducible refine wpL_load_row rfl 24 (.tmp 12) rfl _ 24 _ 6 rfl b12 mf_wide (mf_size' _ _ _ _ _ _ _ _) ?_)
        | (with_reducible refine wpL_load_row rfl 24 (.tmp 5) rfl _ 24 _ 6 rfl b5 mf_wide (mf_size' _ _ _ _ _ _ _ _) ?_)
        | (go_at_call 13; go_loud ((with_reducible refine KSx.out.mono ?_); rintro e w19 ⟨rfl, hx19⟩)))
      go_ret
      exact ⟨rfl, HX18.out.tr hx19⟩
    · have hEi : ¬ ((E1 : Nat) : Int) = 0 := by omega
      subst hm
      have KSx := Lib.hid (msame_any mm A17 A c17 c W18 S17.out (HR.out.ext HX18.out) (by omega))
      unfold mfcells at KSx
      clear HRes KSo
      go_wp2_with (first
        | (with_reducible refine wpL_load_row rfl 24 (.tmp 12) rfl _ 24 _ 6 rfl b12 mf_wide (mf_size' _ _ _ _ _ _ _ _) ?_)
        | (with_reducible refine wpL_load_row rfl 24 (.tmp 10) rfl _ 24 _ 6 rfl b10 mf_wide (mf_size' _ _ _ _ _ _ _ _) ?_)
        | (go_at_call 13; go_loud ((with_reducible refine KSx.out.mono ?_); rintro e w19 ⟨rfl, hx19⟩)))
      go_ret
      exact ⟨rfl, HX18.out.tr hx19⟩
  | false =>
    obtain ⟨z, hz⟩ : ∃ z, z = m1 := ⟨_, rfl⟩
    have hzv : manB z = true := by rw [hz]; exact m1_ok
    have hzi : DkInv (dSv z 4) := by rw [hz]; exact sw_inv
    rw [← hz] at KSa
    have HZ := Lib.hid hz
    clear hz
    have hall := sw_all (x := x) (n := n) hzv hzi hn2 keep
    obtain ⟨i1, i2, mm, d', hld, hres⟩ := hall
    have i3 := inv_restart i2 keep
    have hst : (dFz z 4 n).steps = 4 := rfl
    have KF := Lib.hid fun W w1 g b D hs (h : FsX W w1 g (dSv z 4) b D hs) => (show Calls Tryd.prog 10 #[.pointer (some ⟨g, 0, none⟩), .int .i64 n] w1 (fun e w' => e = .returned (.tuple #[]) ∧ FsTo W w1 w' g b hs (dFz z 4 n)) from fuseK h n)
    have KSc := Lib.hid fun B e W w1 g b D hs (h : FsX W w1 g (dFz z 4 n) b D hs) (hx : Ext w w1) (hs1 : SgRd w1 B x.segs) => save_any x B e W w1 g b (dFz z 4 n) D hs h i1 (by omega) (HN.out.ext hx) hs1 hlx hnx
    obtain ⟨d1, hd1⟩ : ∃ d1, d1 = (saveD (dFz z 4 n) x).1 := ⟨_, rfl⟩
    obtain ⟨E1, hE1⟩ : ∃ E1, E1 = (saveD (dFz z 4 n) x).2 := ⟨_, rfl⟩
    rw [← hd1, ← hE1] at KSc
    rw [← hd1] at i2 i3 hld
    rw [← hE1] at hres
    have KU := Lib.hid fun W w1 g b D hs B e (h : FsX W w1 g d1 b D hs) hr => restartK h i2 B nk e keep (by omega) hr Hki.out
    have KL := Lib.hid fun W w1 g b D hs (h : FsX W w1 g (restartD d1 keep) b D hs) (hx : Ext w W) => load_any W w1 g b _ D hs h i3 (HN.out.ext hx)
    rw [hld] at KL
    unfold LdPost at KL
    have HRes := Lib.hid hres
    have KSo := Lib.hid fun B e B2 e2 W (h : SgRd W B x.segs) (h2 : SgRd W B2 x.segs) => msame_any x B B2 e e2 W h h2 (by omega)
    unfold mfcells at KC1 KC2 KV KSc KL KSo ⊢
    clear hd1 hE1 hld hres i1 i2 i3 hst
    rw [hv] at KV
    clear hv hzv hzi
    go_enter Tryd.func3, Tryd.ntmps3
    go_upto_region 7 with (first
      | (go_at_call 4; (with_reducible refine (K0.out _ (by repeat (first | with_reducible exact Below.refl _ _ | with_reducible assumption | with_reducible refine ExtD ?_ | with_reducible refine ExtDN ?_ | with_reducible refine ExtA ?_ | (with_reducible refine ExtR ?_ ?_; (first | omega | (dsimp only; omega) | (simp; done) | (simp; omega))) | (with_reducible refine ExtS ?_ ?_; (first | omega | (dsimp only; omega) | (simp; done) | (simp; omega))) | with_reducible refine Ext.tr ?_ (by with_reducible assumption)))).mono ?_); rintro e w1 ⟨rfl, hx1⟩; have hX1 : Ext w w1 := Ext.tr (by repeat (first | with_reducible exact Below.refl _ _ | with_reducible assumption | with_reducible refine ExtD ?_ | with_reducible refine ExtDN ?_ | with_reducible refine ExtA ?_ | (with_reducible refine ExtR ?_ ?_; (first | omega | (dsimp only; omega) | (simp; done) | (simp; omega))) | (with_reducible refine ExtS ?_ ?_; (first | omega | (dsimp only; omega) | (simp; done) | (simp; omega))) | with_reducible refine Ext.tr ?_ (by with_reducible assumption))) hx1; have b4 : Blk w1 w.heap.size 24 #[.int .i64 o.gen, .int .i64 o.next, .int .i64 o.floor, .int .i64 o.snap, .int .i64 o.snapSeq, .slice A o.segs.length c] := BlkE (BlkA (BlkN rfl)) hx1; have b5 : Blk w1 (w.heap.size + 1) 24 #[.int .i64 x.gen, .int .i64 x.next, .int .i64 x.floor, .int .i64 x.snap, .int .i64 x.snapSeq, .slice A2 x.segs.length c2] := BlkE (BlkN (by simp)) hx1)
      | (go_at_call 5; go_loud ((with_reducible refine (KN.out _).mono ?_); rintro e w2 ⟨g, b, rfl, hD2⟩))
      | (go_at_call 7; (with_reducible refine (KFi.out w2).mono ?_); rintro e w3 ⟨B3, rfl, hx3, hs3⟩; have hD3 := hD2.ext_ hx3)
      | (go_at_call 6; (with_reducible refine (KSa.out B3 _ _ _ _ _ _ hD3 (hX1.tr hD3.ext) hs3).mono ?_); rintro e w4 ⟨rfl, D4, hs4, hD4, -, -⟩)
      | (go_at_call 7; (with_reducible refine (KFo.out w4).mono ?_); rintro e w5 ⟨p5, rfl, hx5, hp5, hs5⟩; have hD5 := hD4.ext_ hx5)
      | (with_reducible refine wpL_store_row rfl 24 (.tmp 10) (.tmp 26) rfl _ 24 _ _ rfl rfl (BlkN rfl) ((mf_size' _ _ _ _ _ _ _ _).trans (mf_size' _ _ _ _ _ _ _ _).symm) (mf_one' _ _ _ _ _ _ _ _) 6 mf_wide (mf_size' _ _ _ _ _ _ _ _) ?_))
    obtain ⟨W6, hW6⟩ : ∃ W6, W6 = (w5.alloc (.cells #[.int .i64 0, .int .i64 0, .int .i64 0, .int .i64 0, .int .i64 0, .slice none 0 0] 24)).setRow w5.heap.size #[.int .i64 1, .int .i64 2, .int .i64 0, .int .i64 0, .int .i64 0, .slice (some ⟨p5, 0, none⟩) 1 1] := ⟨_, rfl⟩
    have hx6 : Ext w5 W6 := by rw [hW6]; exact ExtR (Nat.le_refl _) (ExtA (Ext.rfl' _))
    have b10 : Blk W6 w5.heap.size 24 #[.int .i64 1, .int .i64 2, .int .i64 0, .int .i64 0, .int .i64 0, .slice (some ⟨p5, 0, none⟩) 1 1] := by rw [hW6]; exact Blk.setRow_ (BlkN rfl)
    have hDt := hD5.ext_ hx6
    have np : w5.heap.size ∉ foot g b hs4 := fun hc => by have := hD5.lt _ hc; omega
    have lp : w1.heap.size ≤ w5.heap.size := hD5.ext.size
    have bs := BlkE hs5 hx6
    have ns : p5 ∉ foot g b hs4 := fun hc => by have := hD4.lt _ hc; omega
    rw [← hW6]
    obtain ⟨q, hq⟩ : ∃ q, q = w5.heap.size := ⟨_, rfl⟩
    rw [← hq] at b10 np lp ⊢
    have B41 := Lib.hid b4
    have B51 := Lib.hid b5
    have b4 := BlkE b4 hDt.ext
    have hXt := hX1.tr hDt.ext
    have lq : w.heap.size ≠ q := by have := B41.out.lt; omega
    clear hq hW6 hx6
    go_upto_region 11 with (first
      | (with_reducible refine wpL_load_row rfl 24 (.tmp 4) rfl _ 24 _ 6 rfl b4 mf_wide (mf_size' _ _ _ _ _ _ _ _) ?_)
      | (go_at_call 9; (with_reducible refine (KC1.out _ (HR.out.ext hXt)).mono ?_); rintro e w7 ⟨A7, c7, rfl, hx7, ho7⟩; have b4 := BlkE b4 hx7; have b10 := BlkE b10 hx7; have bs := BlkE bs hx7; have hXt := hXt.tr hx7; have hDt := hDt.ext_ hx7)
      | (go_at_call 8; (with_reducible refine (KV.out _ _ _ (OwnSg.rd ho7)).mono ?_); rintro e w8 ⟨rfl, hx8⟩; have b4 := BlkE b4 hx8; have b10 := BlkE b10 hx8; have bs := BlkE bs hx8; have hXt := hXt.tr hx8; have hDt := hDt.ext_ hx8))
    have b5 := BlkE B51.out hDt.ext
    go_upto_region 15 with (first
      | (go_at_call 10; go_loud ((with_reducible refine (KF.out _ _ _ _ _ _ hDt).mono ?_); rintro e w12 ⟨rfl, D12, hs12, hD12, hT12, hF12⟩; have b5 := BlkE B51.out hD12.ext; have np12 := FsTo.off (W := w1) (w' := w12) hF12 np b10.lt; have b10 := hT12.blk b10 np; have ns12 := FsTo.off (W := w1) (w' := w12) hF12 ns bs.lt; have bs := hT12.blk bs ns))
      | (with_reducible refine wpL_load_row rfl 24 (.tmp 5) rfl _ 24 _ 6 rfl b5 mf_wide (mf_size' _ _ _ _ _ _ _ _) ?_)
      | (go_at_call 9; (with_reducible refine (KC2.out _ (HR2.out.ext (hX1.tr hD12.ext))).mono ?_); rintro e w13 ⟨A13, c13, rfl, hx13, ho13⟩; have hD13 := hD12.ext_ hx13; have b10 := BlkE b10 hx13; have bs := BlkE bs hx13)
      | (go_at_call 6; go_loud ((with_reducible refine (KSc.out _ _ _ _ _ _ _ _ hD13 (hX1.tr hD13.ext) (OwnSg.rd ho13)).mono ?_); rintro e w14 ⟨rfl, D14, hs14, hD14, hT14, hF14⟩; have np14 := FsTo.off (W := w1) (w' := w14) hF14 np12 b10.lt; have b10 := hT14.blk b10 np12; have ns14 := FsTo.off (W := w1) (w' := w14) hF14 ns12 bs.lt; have bs := hT14.blk bs ns12))
      | (at_builtin; go_loud (refine wpI_append rfl (.tmp 44) (.tmp 45) rfl w14.heap.size rfl (own_emptyI w14 _ (Nat.le_refl _)) (by simp) rfl (Hrk.out.ext (ExtA (hX1.tr hD14.ext))) nk keep (Nat.zero_add _) rfl (by omega) ?_; intro A15 c15 w15 hown15 hg15; have hx15 : Ext w14 w15 := (ExtA (Ext.rfl' w14)).grown hg15 (own_lt (own_emptyI w14 _ (Nat.le_refl _))); have hD15 := hD14.ext_ hx15; have b10 := BlkE b10 hx15; have bs := BlkE bs hx15))
      | (go_at_call 11; go_loud ((with_reducible refine (KU.out _ _ _ _ _ _ _ _ hD15 (fun w' ht => rdI_turn hown15 ht (own_off hD14 hown15))).mono ?_); rintro e w16 ⟨rfl, D16, hs16, hD16, hT16, hF16⟩; have np16 := FsTo.off (W := w1) (w' := w16) hF16 np14 b10.lt; have b10 := hT16.blk b10 np14; have ns16 := FsTo.off (W := w1) (w' := w16) hF16 ns14 bs.lt; have bs := hT16.blk bs ns14))
      | (go_at_call 12; go_loud ((with_reducible refine (KL.out _ _ _ _ _ _ hD16 hX1).mono ?_); rintro e w17 ⟨A17, c17, rfl, ⟨D17, hs17, hD17, hT17, hF17⟩, ho17⟩; have b10 := hT17.blk b10 np16; have bs := hT17.blk bs ns16))
      | (with_reducible refine wpL_store_row rfl 24 (.tmp 12) (.tmp 51) rfl _ 24 _ _ rfl rfl (BlkN rfl) ((mf_size' _ _ _ _ _ _ _ _).trans (mf_size' _ _ _ _ _ _ _ _).symm) (mf_one' _ _ _ _ _ _ _ _) 6 mf_wide (mf_size' _ _ _ _ _ _ _ _) ?_))
    obtain ⟨W18, hW18⟩ : ∃ W18, W18 = (w17.alloc (.cells #[.int .i64 0, .int .i64 0, .int .i64 0, .int .i64 0, .int .i64 0, .slice none 0 0] 24)).setRow w17.heap.size #[.int .i64 mm.gen, .int .i64 mm.next, .int .i64 mm.floor, .int .i64 mm.snap, .int .i64 mm.snapSeq, .slice A17 mm.segs.length c17] := ⟨_, rfl⟩
    have hx18 : Ext w17 W18 := by rw [hW18]; exact ExtR (Nat.le_refl _) (ExtA (Ext.rfl' _))
    have b12 : Blk W18 w17.heap.size 24 #[.int .i64 mm.gen, .int .i64 mm.next, .int .i64 mm.floor, .int .i64 mm.snap, .int .i64 mm.snapSeq, .slice A17 mm.segs.length c17] := by rw [hW18]; exact Blk.setRow_ (BlkN rfl)
    have hX18 : Ext w W18 := hX1.tr (hD17.ext.tr hx18)
    have b5 := BlkE B51.out (hD17.ext.tr hx18)
    have b10 := BlkE b10 hx18
    have bs := BlkE bs hx18
    have s17 := (OwnSg.rd ho17).ext hx18
    rw [← hW18]
    have HX18 := Lib.hid hX18
    have S17 := Lib.hid s17
    clear hW18 s17
    rcases HRes.out with ⟨he, hm⟩ | ⟨he, hm⟩
    · subst he hm
      have KSx := Lib.hid (KSo.out _ c17 _ c2 W18 S17.out (HR2.out.ext HX18.out))
      clear HRes KSo
      go_wp2_with (first
        | (with_reducible refine wpL_load_row rfl 24 (.tmp 12) rfl _ 24 _ 6 rfl b12 mf_wide (mf_size' _ _ _ _ _ _ _ _) ?_)
        | (with_reducible refine wpL_load_row rfl 24 (.tmp 5) rfl _ 24 _ 6 rfl b5 mf_wide (mf_size' _ _ _ _ _ _ _ _) ?_)
        | (go_at_call 13; go_loud ((with_reducible refine KSx.out.mono ?_); rintro e w19 ⟨rfl, hx19⟩)))
      go_ret
      exact ⟨rfl, HX18.out.tr hx19⟩
    · have hEi : ¬ ((E1 : Nat) : Int) = 0 := by omega
      subst hm
      have KSx := Lib.hid (show Calls Tryd.prog 13 #[.agg #[.int .i64 mm.gen, .int .i64 mm.next, .int .i64 mm.floor, .int .i64 mm.snap, .int .i64 mm.snapSeq, .slice A17 mm.segs.length c17], .agg #[.int .i64 1, .int .i64 2, .int .i64 0, .int .i64 0, .int .i64 0, .slice (some ⟨p5, 0, none⟩) 1 1]] W18 (fun e w' => e = .returned (.bool true) ∧ Ext W18 w') from by
        have h17 := S17.out
        rw [HZ.out] at h17 ⊢
        exact msame_any m1 A17 (some ⟨p5, 0, none⟩) c17 1 W18 h17 (srd_one bs) (by decide))
      clear HRes KSo
      go_wp2_with (first
        | (with_reducible refine wpL_load_row rfl 24 (.tmp 12) rfl _ 24 _ 6 rfl b12 mf_wide (mf_size' _ _ _ _ _ _ _ _) ?_)
        | (with_reducible refine wpL_load_row rfl 24 (.tmp 10) rfl _ 24 _ 6 rfl b10 mf_wide (mf_size' _ _ _ _ _ _ _ _) ?_)
        | (go_at_call 13; go_loud ((with_reducible refine KSx.out.mono ?_); rintro e w19 ⟨rfl, hx19⟩)))
      go_ret
      exact ⟨rfl, HX18.out.tr hx19⟩
end Go.Proofs.YtdoaniimfhpjhaaDoor
