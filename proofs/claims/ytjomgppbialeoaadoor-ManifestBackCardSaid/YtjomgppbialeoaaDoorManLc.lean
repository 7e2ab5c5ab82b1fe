/-
  The walk of ManifestBack. (Written by wip/tools/gen_mback.py.)
-/
import Derived.Test.YtjomgppbialeoaaDoorManLb
namespace Go.Proofs.YtjomgppbialeoaaDoor
open Go.RowKit
set_option linter.unusedVariables false
set_option linter.unusedSimpArgs false
set_option maxRecDepth 100000 in
set_option maxHeartbeats 8000000 in
theorem manifestBack_walk (m : Mf) (A : Option Addr) (c : Nat) (B : Option Addr) (n d : Nat) (l : List UInt8) (w : World) (hN : Nib w) (hr : SgRd w A m.segs) (hw : MfWf m) (hrb : Rd w B n (u8s l)) (hnd : n ≤ d) (hn : n ≤ 140737488351232) :
    Calls Tryd.prog 5 #[.agg (mfcells m A c), .slice B n d] w fun e w' => e = .returned (.bool true) ∧ Ext w w' := by
  have hll : l.length = n := by have := hrb.1; rw [u8s_len] at this; exact this
  have hmx : n ≤ maxLen := by unfold maxLen; omega
  have hlen := hw.2.1
  have hnx := hw.1.2.1
  have HR := Lib.hid hr
  have HRb := Lib.hid hrb
  have HN := Lib.hid fun W (hx : Ext w W) => hN.ext hx
  have K0 := Lib.hid fun W (hx : Ext w W) => mhead_any W (hN.ext hx)
  have KC := Lib.hid fun W (h : SgRd W A m.segs) => mcopy_any m A c W h (by omega)
  have KE := Lib.hid fun A2 c2 W (hx : Ext w W) (h : SgRd W A2 m.segs) => menc_any m A2 c2 W (hN.ext hx) h hlen hnx
  have KV := Lib.hid fun A2 c2 W (h : SgRd W A2 m.segs) => mvalid_any m A2 c2 W h hlen hnx
  have KM := Lib.hid fun A2 c2 W (h : SgRd W A2 m.segs) (h2 : SgRd W A m.segs) => msame_any m A2 A c2 c W h h2 (by omega)
  have KCb := Lib.hid fun W (h : Rd W B n (u8s l)) => copy_any B n d l W h (by omega)
  have KDb := Lib.hid fun A2 c2 W (hx : Ext w W) (h : Rd W A2 n (u8s l)) (hc : n ≤ c2) => mdec_any A2 n c2 l W (hN.ext hx) h hc hmx
  unfold McPost at KC
  unfold MePost at KE
  unfold NewB at KCb
  rw [hll] at KCb
  have hlE := manE_len m
  have Hor := Lib.hid (manD_or l)
  have Hinv : Hid ((manD l).2 = 0 → manB (manD l).1 = true ∧ l = (manE (manD l).1).1) := Lib.hid fun h => manD_inv (b := l) (m := (manD l).1) (by rw [← h])
  have hDl := manD_len l
  unfold MdPost at KDb
  have KEb : Hid ((manD l).2 = 0 → ∀ A2 c2 W, Ext w W → SgRd W A2 (manD l).1.segs → Calls Tryd.prog 9 #[.agg (mfcells (manD l).1 A2 c2)] W fun e w' => ∃ A1 c1, e = .returned (.tuple #[.slice A1 n c1, .int .i64 0]) ∧ Ext W w' ∧ w'.ownsRow W.heap.size 5 1 (.slice A1 n c1) n (u8s l)) := Lib.hid fun h A2 c2 W hx hr => by
    obtain ⟨h1, h2⟩ := Hinv.out h
    have hk := man_ok h1
    refine (menc_any (manD l).1 A2 c2 W (HN.out W hx) hr (by omega) ⟨by have := hk.next; omega, by have := hk.next; omega⟩).mono fun e w' ⟨A1, c1, he, hx1, ho1⟩ => ?_
    rw [← h2, hll] at he ho1
    rw [manE_ok h1] at he
    exact ⟨A1, c1, he, hx1, ho1⟩
  have hbb : (true != true) = false := rfl
  have hbf : (false != false) = false := rfl
  cases hv : manB m with
  | false =>
    rw [manE_bad hv] at KE
    rw [hv] at KV
    unfold mfcells at KC KE KV KM ⊢
    clear hN hr hw hlen hnx hrb hv
    go_enter Tryd.func5, Tryd.ntmps5
    go_upto_region 10 with (first
      | (go_at_call 6; (with_reducible refine (K0.out _ (by repeat (first | with_reducible exact Below.refl _ _ | with_reducible assumption | with_reducible refine ExtD ?_ | with_reducible refine ExtDN ?_ | with_reducible refine ExtA ?_ | (with_reducible refine ExtR ?_ ?_; (first | omega | (dsimp only; omega) | (simp; done) | (simp; omega))) | (with_reducible refine ExtS ?_ ?_; (first | omega | (dsimp only; omega) | (simp; done) | (simp; omega))) | with_reducible refine Ext.tr ?_ (by with_reducible assumption)))).mono ?_); rintro e w1 ⟨rfl, hx1⟩; have b1 : Blk w1 w.heap.size 24 #[.int .i64 m.gen, .int .i64 m.next, .int .i64 m.floor, .int .i64 m.snap, .int .i64 m.snapSeq, .slice A m.segs.length c] := BlkE (BlkN rfl) hx1; have hXt : Ext w w1 := (ExtA (Ext.rfl' w)).tr hx1)
      | (with_reducible refine wpL_load_row rfl 24 (.tmp 2) rfl _ 24 _ 6 rfl b1 mf_wide (mf_size' _ _ _ _ _ _ _ _) ?_)
      | (go_at_call 7; (with_reducible refine (KC.out _ (HR.out.ext hXt)).mono ?_); rintro e w2 ⟨A4, c4, rfl, hx2, ho2⟩; have b1 := BlkE b1 hx2; have hXt := hXt.tr hx2)
      | (go_at_call 9; (with_reducible refine (KE.out _ _ _ hXt (OwnSg.rd ho2)).mono ?_); rintro e w3 ⟨A5, c5, rfl, hx3, ho3⟩; have b1 := BlkE b1 hx3; have hXt := hXt.tr hx3)
      | (go_at_call 12; (with_reducible refine (KV.out _ _ _ (OwnSg.rd ho2)).mono ?_); rintro e w4 ⟨rfl, hx4⟩; have b1 := BlkE b1 hx4; have hXt := hXt.tr hx4))
    have KSb := Lib.hid fun A2 c2 W (h : Rd W A2 n (u8s l)) (h2 : Rd W B n (u8s l)) => same_any A2 B n c2 n d l l W h h2 hmx
    rw [decide_eq_true rfl] at KSb
    rcases Hor.out with h0 | h0
    · have KE2 := Lib.hid (KEb.out h0)
      rw [h0] at KDb
      generalize (manD l).1 = M at *
      obtain ⟨m2, hm2⟩ : ∃ x, x = M := ⟨_, rfl⟩
      rw [← hm2] at KDb KE2
      clear hm2 h0 Hor Hinv KEb hDl
      unfold mfcells at KDb KE2
      clear KC KE KV KM K0
      go_upto_region 11 with (first
        | (go_at_call 14; (with_reducible refine (KCb.out _ (HRb.out.ext hXt)).mono ?_); rintro e v1 ⟨D1, e1, rfl, hy1, ho1⟩; have hY1 := hXt.tr hy1)
        | (go_at_call 16; (with_reducible refine (KDb.out _ _ _ hY1 (rd_own ho1) (own_capB ho1)).mono ?_); rintro e v2 ⟨D2, e2, rfl, hy2, ho2'⟩; have hY2 := hY1.tr hy2)
        | (with_reducible refine wpL_store_row rfl 24 (.tmp 9) (.tmp 46) rfl _ 24 _ _ rfl rfl (BlkN rfl) ((mf_size' _ _ _ _ _ _ _ _).trans (mf_size' _ _ _ _ _ _ _ _).symm) (mf_one' _ _ _ _ _ _ _ _) 6 mf_wide (mf_size' _ _ _ _ _ _ _ _) ?_))
      have b9' : Blk ((v2.alloc (.cells #[.int .i64 0, .int .i64 0, .int .i64 0, .int .i64 0, .int .i64 0, .slice none 0 0] 24)).setRow v2.heap.size #[.int .i64 m2.gen, .int .i64 m2.next, .int .i64 m2.floor, .int .i64 m2.snap, .int .i64 m2.snapSeq, .slice D2 m2.segs.length e2]) v2.heap.size 24 #[.int .i64 m2.gen, .int .i64 m2.next, .int .i64 m2.floor, .int .i64 m2.snap, .int .i64 m2.snapSeq, .slice D2 m2.segs.length e2] := Blk.setRow_ (BlkN rfl)
      have hY3' : Ext v2 ((v2.alloc (.cells #[.int .i64 0, .int .i64 0, .int .i64 0, .int .i64 0, .int .i64 0, .slice none 0 0] 24)).setRow v2.heap.size #[.int .i64 m2.gen, .int .i64 m2.next, .int .i64 m2.floor, .int .i64 m2.snap, .int .i64 m2.snapSeq, .slice D2 m2.segs.length e2]) := ExtR (Nat.le_refl _) (ExtA (Ext.rfl' _))
      go_wp2_with (first
        | (with_reducible refine wpL_load_row rfl 24 (.tmp 9) rfl _ 24 _ 6 rfl b9' mf_wide (mf_size' _ _ _ _ _ _ _ _) ?_)
        | (go_at_call 9; (with_reducible refine (KE2.out _ _ _ (hY2.tr hY3') ((OwnSg.rd ho2').ext hY3')).mono ?_); rintro e v4 ⟨D4, e4, rfl, hy4, ho4'⟩; have hY4 := (hY2.tr hY3').tr hy4)
        | (go_at_call 10; (with_reducible refine (KSb.out _ _ _ (rd_own ho4') (HRb.out.ext hY4)).mono ?_); rintro e v5 ⟨rfl, hy5⟩))
      go_ret
      exact ⟨rfl, hY4.tr hy5⟩
    · rw [h0] at KDb
      clear h0 Hor Hinv KEb hDl KC KE KV KM K0
      unfold mfcells noMf at KDb
      go_wp2_with (first
        | (go_at_call 14; (with_reducible refine (KCb.out _ (HRb.out.ext hXt)).mono ?_); rintro e v1 ⟨D1, e1, rfl, hy1, ho1⟩; have hY1 := hXt.tr hy1)
        | (go_at_call 16; (with_reducible refine (KDb.out _ _ _ hY1 (rd_own ho1) (own_capB ho1)).mono ?_); rintro e v2 ⟨D2, e2, rfl, hy2, ho2'⟩; have hY2 := hY1.tr hy2)
        | (with_reducible refine wpL_store_row rfl 24 (.tmp 9) (.tmp 46) rfl _ 24 _ _ rfl rfl (BlkN rfl) ((mf_size' _ _ _ _ _ _ _ _).trans (mf_size' _ _ _ _ _ _ _ _).symm) (mf_one' _ _ _ _ _ _ _ _) 6 mf_wide (mf_size' _ _ _ _ _ _ _ _) ?_))
      go_ret
      exact ⟨rfl, ExtR hY2.size (ExtA hY2)⟩
  | true =>
    have hde := manD_enc hv
    have hE2 : (manE m).2 = 0 := by rw [manE_ok hv]
    obtain ⟨L, hL⟩ : ∃ L, L = (manE m).1.length := ⟨_, rfl⟩
    have KD1 : Hid (∀ A2 c2 W, Ext w W → Rd W A2 L (u8s (manE m).1) → L ≤ c2 → Calls Tryd.prog 16 #[.slice A2 L c2] W fun e w' => ∃ A c, e = .returned (.tuple #[.agg (mfcells m A c), .int .i64 0]) ∧ Ext W w' ∧ OwnSg w' W.heap.size A m.segs c) := Lib.hid fun A2 c2 W hx h hc => (mdec_any A2 L c2 (manE m).1 W (HN.out W hx) h hc (by unfold maxLen; omega)).mono fun e w' ⟨A1, c1, he, hx1, ho1⟩ => by
      rw [hde] at he ho1
      exact ⟨A1, c1, he, hx1, ho1⟩
    rw [hE2, ← hL] at KE
    rw [hv] at KV
    generalize (manE m).1 = bs at *
    unfold mfcells at KC KE KV KM KD1 ⊢
    clear hN hr hw hlen hnx hrb hv hde hE2
    have HL := Lib.hid hL
    clear hL
    go_enter Tryd.func5, Tryd.ntmps5
    go_upto_region 8 with (first
      | (go_at_call 6; (with_reducible refine (K0.out _ (by repeat (first | with_reducible exact Below.refl _ _ | with_reducible assumption | with_reducible refine ExtD ?_ | with_reducible refine ExtDN ?_ | with_reducible refine ExtA ?_ | (with_reducible refine ExtR ?_ ?_; (first | omega | (dsimp only; omega) | (simp; done) | (simp; omega))) | (with_reducible refine ExtS ?_ ?_; (first | omega | (dsimp only; omega) | (simp; done) | (simp; omega))) | with_reducible refine Ext.tr ?_ (by with_reducible assumption)))).mono ?_); rintro e w1 ⟨rfl, hx1⟩; have b1 : Blk w1 w.heap.size 24 #[.int .i64 m.gen, .int .i64 m.next, .int .i64 m.floor, .int .i64 m.snap, .int .i64 m.snapSeq, .slice A m.segs.length c] := BlkE (BlkN rfl) hx1; have hXt : Ext w w1 := (ExtA (Ext.rfl' w)).tr hx1)
      | (with_reducible refine wpL_load_row rfl 24 (.tmp 2) rfl _ 24 _ 6 rfl b1 mf_wide (mf_size' _ _ _ _ _ _ _ _) ?_)
      | (go_at_call 7; (with_reducible refine (KC.out _ (HR.out.ext hXt)).mono ?_); rintro e w2 ⟨A4, c4, rfl, hx2, ho2⟩; have b1 := BlkE b1 hx2; have hXt := hXt.tr hx2; have hx3e := hx2)
      | (go_at_call 9; (with_reducible refine (KE.out _ _ _ hXt (OwnSg.rd ho2)).mono ?_); rintro e w3 ⟨A5, c5, rfl, hx3, ho3⟩; have b1 := BlkE b1 hx3; have hXt := hXt.tr hx3)
      | (go_at_call 12; (with_reducible refine (KV.out _ _ _ (OwnSg.rd ho2)).mono ?_); rintro e w4 ⟨rfl, hx4⟩; have b1 := BlkE b1 hx4; have hXt := hXt.tr hx4; have R5 := (rd_own ho3).ext (hx2.tr hx4); have hcap5 := own_capB ho3)
      | (go_at_call 16; (with_reducible refine (KD1.out _ _ _ hXt R5 hcap5).mono ?_); rintro e w5 ⟨A6, c6, rfl, hx5, ho6⟩; have b1 := BlkE b1 hx5; have hXt := hXt.tr hx5)
      | (with_reducible refine wpL_store_row rfl 24 (.tmp 7) (.tmp 32) rfl _ 24 _ _ rfl rfl (BlkN rfl) ((mf_size' _ _ _ _ _ _ _ _).trans (mf_size' _ _ _ _ _ _ _ _).symm) (mf_one' _ _ _ _ _ _ _ _) 6 mf_wide (mf_size' _ _ _ _ _ _ _ _) ?_))
    obtain ⟨W5, hW5⟩ : ∃ W5, W5 = (w5.alloc (.cells #[.int .i64 0, .int .i64 0, .int .i64 0, .int .i64 0, .int .i64 0, .slice none 0 0] 24)).setRow w5.heap.size #[.int .i64 m.gen, .int .i64 m.next, .int .i64 m.floor, .int .i64 m.snap, .int .i64 m.snapSeq, .slice A6 m.segs.length c6] := ⟨_, rfl⟩
    have hX5' : Ext w5 W5 := by rw [hW5]; exact ExtR (Nat.le_refl _) (ExtA (Ext.rfl' _))
    have b7 : Blk W5 w5.heap.size 24 #[.int .i64 m.gen, .int .i64 m.next, .int .i64 m.floor, .int .i64 m.snap, .int .i64 m.snapSeq, .slice A6 m.segs.length c6] := by rw [hW5]; exact Blk.setRow_ (BlkN rfl)
    have b1 := BlkE b1 hX5'
    have hXt := hXt.tr hX5'
    have KM2 := Lib.hid (KM.out A6 c6 W5 ((OwnSg.rd ho6).ext hX5') (HR.out.ext hXt))
    rw [← hW5]
    obtain ⟨g7, hg7⟩ : ∃ g7, g7 = w5.heap.size := ⟨_, rfl⟩
    rw [← hg7] at b7 ⊢
    clear hg7 hW5
    (have f0 : World.cell? W5 ⟨g7, 0, none⟩ = some (.int .i64 m.gen) := Blk.cell b7 0; have f1 : World.cell? W5 ⟨g7, 1, none⟩ = some (.int .i64 m.next) := Blk.cell b7 1; have f2 : World.cell? W5 ⟨g7, 2, none⟩ = some (.int .i64 m.floor) := Blk.cell b7 2; have f3 : World.cell? W5 ⟨g7, 3, none⟩ = some (.int .i64 m.snap) := Blk.cell b7 3; have f4 : World.cell? W5 ⟨g7, 4, none⟩ = some (.int .i64 m.snapSeq) := Blk.cell b7 4; have f5 : World.cell? W5 ⟨g7, 5, none⟩ = some (.slice A6 m.segs.length c6) := Blk.cell b7 5)
    (have h0 : World.cell? W5 ⟨w.heap.size, 0, none⟩ = some (.int .i64 m.gen) := Blk.cell b1 0; have h1 : World.cell? W5 ⟨w.heap.size, 1, none⟩ = some (.int .i64 m.next) := Blk.cell b1 1; have h2 : World.cell? W5 ⟨w.heap.size, 2, none⟩ = some (.int .i64 m.floor) := Blk.cell b1 2; have h3 : World.cell? W5 ⟨w.heap.size, 3, none⟩ = some (.int .i64 m.snap) := Blk.cell b1 3; have h4 : World.cell? W5 ⟨w.heap.size, 4, none⟩ = some (.int .i64 m.snapSeq) := Blk.cell b1 4; have h5 : World.cell? W5 ⟨w.heap.size, 5, none⟩ = some (.slice A m.segs.length c) := Blk.cell b1 5)
    go_upto_region 10 with (go_at_call 13; (with_reducible refine (KM2.out).mono ?_); rintro e w9 ⟨rfl, hx9⟩; have hXt := hXt.tr hx9)
    have KSb := Lib.hid fun A2 c2 W (h : Rd W A2 n (u8s l)) (h2 : Rd W B n (u8s l)) => same_any A2 B n c2 n d l l W h h2 hmx
    rw [decide_eq_true rfl] at KSb
    rcases Hor.out with h0 | h0
    · have KE2 := Lib.hid (KEb.out h0)
      rw [h0] at KDb
      generalize (manD l).1 = M at *
      obtain ⟨m2, hm2⟩ : ∃ x, x = M := ⟨_, rfl⟩
      rw [← hm2] at KDb KE2
      clear hm2 h0 Hor Hinv KEb hDl
      unfold mfcells at KDb KE2
      clear KC KE KV KM K0
      go_upto_region 11 with (first
        | (go_at_call 14; (with_reducible refine (KCb.out _ (HRb.out.ext hXt)).mono ?_); rintro e v1 ⟨D1, e1, rfl, hy1, ho1⟩; have hY1 := hXt.tr hy1)
        | (go_at_call 16; (with_reducible refine (KDb.out _ _ _ hY1 (rd_own ho1) (own_capB ho1)).mono ?_); rintro e v2 ⟨D2, e2, rfl, hy2, ho2'⟩; have hY2 := hY1.tr hy2)
        | (with_reducible refine wpL_store_row rfl 24 (.tmp 9) (.tmp 46) rfl _ 24 _ _ rfl rfl (BlkN rfl) ((mf_size' _ _ _ _ _ _ _ _).trans (mf_size' _ _ _ _ _ _ _ _).symm) (mf_one' _ _ _ _ _ _ _ _) 6 mf_wide (mf_size' _ _ _ _ _ _ _ _) ?_))
      have b9' : Blk ((v2.alloc (.cells #[.int .i64 0, .int .i64 0, .int .i64 0, .int .i64 0, .int .i64 0, .slice none 0 0] 24)).setRow v2.heap.size #[.int .i64 m2.gen, .int .i64 m2.next, .int .i64 m2.floor, .int .i64 m2.snap, .int .i64 m2.snapSeq, .slice D2 m2.segs.length e2]) v2.heap.size 24 #[.int .i64 m2.gen, .int .i64 m2.next, .int .i64 m2.floor, .int .i64 m2.snap, .int .i64 m2.snapSeq, .slice D2 m2.segs.length e2] := Blk.setRow_ (BlkN rfl)
      have hY3' : Ext v2 ((v2.alloc (.cells #[.int .i64 0, .int .i64 0, .int .i64 0, .int .i64 0, .int .i64 0, .slice none 0 0] 24)).setRow v2.heap.size #[.int .i64 m2.gen, .int .i64 m2.next, .int .i64 m2.floor, .int .i64 m2.snap, .int .i64 m2.snapSeq, .slice D2 m2.segs.length e2]) := ExtR (Nat.le_refl _) (ExtA (Ext.rfl' _))
      go_wp2_with (first
        | (with_reducible refine wpL_load_row rfl 24 (.tmp 9) rfl _ 24 _ 6 rfl b9' mf_wide (mf_size' _ _ _ _ _ _ _ _) ?_)
        | (go_at_call 9; (with_reducible refine (KE2.out _ _ _ (hY2.tr hY3') ((OwnSg.rd ho2').ext hY3')).mono ?_); rintro e v4 ⟨D4, e4, rfl, hy4, ho4'⟩; have hY4 := (hY2.tr hY3').tr hy4)
        | (go_at_call 10; (with_reducible refine (KSb.out _ _ _ (rd_own ho4') (HRb.out.ext hY4)).mono ?_); rintro e v5 ⟨rfl, hy5⟩))
      go_ret
      exact ⟨rfl, hY4.tr hy5⟩
    · rw [h0] at KDb
      clear h0 Hor Hinv KEb hDl KC KE KV KM K0
      unfold mfcells noMf at KDb
      go_wp2_with (first
        | (go_at_call 14; (with_reducible refine (KCb.out _ (HRb.out.ext hXt)).mono ?_); rintro e v1 ⟨D1, e1, rfl, hy1, ho1⟩; have hY1 := hXt.tr hy1)
        | (go_at_call 16; (with_reducible refine (KDb.out _ _ _ hY1 (rd_own ho1) (own_capB ho1)).mono ?_); rintro e v2 ⟨D2, e2, rfl, hy2, ho2'⟩; have hY2 := hY1.tr hy2)
        | (with_reducible refine wpL_store_row rfl 24 (.tmp 9) (.tmp 46) rfl _ 24 _ _ rfl rfl (BlkN rfl) ((mf_size' _ _ _ _ _ _ _ _).trans (mf_size' _ _ _ _ _ _ _ _).symm) (mf_one' _ _ _ _ _ _ _ _) 6 mf_wide (mf_size' _ _ _ _ _ _ _ _) ?_))
      go_ret
      exact ⟨rfl, ExtR hY2.size (ExtA hY2)⟩
end Go.Proofs.YtjomgppbialeoaaDoor
