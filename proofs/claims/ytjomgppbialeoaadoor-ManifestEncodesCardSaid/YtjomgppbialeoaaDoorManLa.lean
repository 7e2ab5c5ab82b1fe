/-
  The walk of ManifestEncodes.
-/
import Derived.Test.YtjomgppbialeoaaDoorManH
import Derived.Test.YtjomgppbialeoaaDoorManC
namespace Go.Proofs.YtjomgppbialeoaaDoor
open Go.RowKit
set_option linter.unusedVariables false
set_option linter.unusedSimpArgs false
/-- A row of bytes that is written over: each cell is some byte; blocks but its own stay. -/
def BwR (W : World) (g n : Nat) (c61 : Value) (wr : World) : Prop :=
  ∃ (k : Nat) (cs : Array Value), c61 = .int .i64 (k : Nat) ∧ k ≤ n ∧ Blk wr g 5 cs ∧ n ≤ cs.size ∧ (∀ i, i < n → ∃ x : Int, cs[i]? = some (.int .u8 x)) ∧ W.grownBy wr (some g)
theorem own_formB {w : World} {base n c : Nat} {A : Option Addr} {l : List UInt8} (h : w.ownsRow base 5 1 (.slice A n c) n (u8s l)) (h0 : 0 < n) : ∃ g cur, A = some ⟨g, 0, none⟩ ∧ base ≤ g ∧ Blk w g 5 cur ∧ n ≤ cur.size ∧ ∀ i, i < n → ∃ x : Int, cur[i]? = some (.int .u8 x) := by
  have hl := h.1
  have hln := own_len h
  rcases h.2 with ⟨h1, h2⟩ | ⟨g, cap, cur, h1, h2, h3, h4, h5, h6, h7⟩
  · omega
  · injection h1 with h8 h9 h10
    refine ⟨g, cur, h8, h2, h3, by rw [h6]; omega, fun i hi => ?_⟩
    have h9 : (cur.toList.take (n * 1))[i]? = (u8s l)[i]? := by rw [h7]
    rw [List.getElem?_take, if_pos (by omega)] at h9
    have h10 : (u8s l)[i]? = some (.int .u8 ((l.getD i 0).toNat : Nat)) := by
      unfold u8s
      rw [List.getElem?_map, List.getD_eq_getElem?_getD, List.getElem?_eq_getElem (by omega)]
      rfl
    rw [h10] at h9
    exact ⟨_, by simpa using h9⟩
set_option maxRecDepth 100000 in
set_option maxHeartbeats 8000000 in
theorem manifestEncodes_walk (m : Mf) (A : Option Addr) (c : Nat) (w : World) (hN : Nib w) (hr : SgRd w A m.segs) (hw : MfWf m) :
    Calls Tryd.prog 3 #[.agg (mfcells m A c)] w fun e w' => e = .returned (.bool true) ∧ Ext w w' := by
  have hlen := hw.2.1
  have hnx := hw.1.2.1
  have HR := Lib.hid hr
  have K0 := Lib.hid fun W (hx : Ext w W) => mhead_any W (hN.ext hx)
  have KC := Lib.hid fun W (h : SgRd W A m.segs) => mcopy_any m A c W h (by omega)
  have KRE := Lib.hid fun W (h : SgRd W A m.segs) => mrenc_any m A c W h hlen trivial
  have KE := Lib.hid fun A2 c2 W (hx : Ext w W) (h : SgRd W A2 m.segs) => menc_any m A2 c2 W (hN.ext hx) h hlen hnx
  have KZ := Lib.hid fun A2 c2 W (hx : Ext w W) (h : SgRd W A2 m.segs) => msize_any m A2 c2 W (hN.ext hx) h hlen hnx
  have KV := Lib.hid fun A2 c2 W (h : SgRd W A2 m.segs) => mvalid_any m A2 c2 W h hlen hnx
  have KM := Lib.hid fun A2 c2 W (h : SgRd W A2 m.segs) (h2 : SgRd W A m.segs) => msame_any m A2 A c2 c W h h2 (by omega)
  have hlE := manE_len m
  have hVE : manB m = decide ((manE m).2 = 0) := by
    cases hv : manB m
    · rw [manE_bad hv]; rfl
    · rw [manE_ok hv]; rfl
  unfold McPost at KC
  unfold MePost at KRE KE
  rw [hVE] at KV
  generalize manE m = r at *
  obtain ⟨bs, E⟩ := r
  dsimp only at KRE KE KZ KV hlE
  have KS := Lib.hid fun A1 c1 A2 c2 W (h : Rd W A1 bs.length (u8s bs)) (h2 : Rd W A2 bs.length (u8s bs)) => same_any A1 A2 bs.length c1 bs.length c2 bs bs W h h2 (by unfold maxLen; omega)
  rw [decide_eq_true rfl] at KS
  obtain ⟨n, hn⟩ : ∃ n, n = bs.length := ⟨_, rfl⟩
  rw [← hn] at KRE KE KZ KS hlE
  have Hn := Lib.hid hn
  have hEq : ∀ x : Int, (x == x) = true := fun x => by simp
  have t77 : decide ((n : Int) ≤ 8092) = true := by simp; omega
  unfold mfcells at KC KRE KE KZ KV KM ⊢
  clear hN hr hw hlen hnx hVE hn
  go_enter Tryd.func3, Tryd.ntmps3
  go_upto_region 4 with (first
    | (go_at_call 6; (with_reducible refine (K0.out _ (by repeat (first | with_reducible exact Below.refl _ _ | with_reducible assumption | with_reducible refine ExtD ?_ | with_reducible refine ExtDN ?_ | with_reducible refine ExtA ?_ | (with_reducible refine ExtR ?_ ?_; (first | omega | (dsimp only; omega) | (simp; done) | (simp; omega))) | (with_reducible refine ExtS ?_ ?_; (first | omega | (dsimp only; omega) | (simp; done) | (simp; omega))) | with_reducible refine Ext.tr ?_ (by with_reducible assumption)))).mono ?_); rintro e w1 ⟨rfl, hx1⟩; have b1 : Blk w1 w.heap.size 24 #[.int .i64 m.gen, .int .i64 m.next, .int .i64 m.floor, .int .i64 m.snap, .int .i64 m.snapSeq, .slice A m.segs.length c] := BlkE (BlkN rfl) hx1)
    | (with_reducible refine wpL_load_row rfl 24 (.tmp 1) rfl _ 24 _ 6 rfl b1 mf_wide (mf_size' _ _ _ _ _ _ _ _) ?_)
    | (go_at_call 7; (with_reducible refine (KC.out _ (HR.out.ext (by repeat (first | with_reducible exact Below.refl _ _ | with_reducible assumption | with_reducible refine ExtD ?_ | with_reducible refine ExtDN ?_ | with_reducible refine ExtA ?_ | (with_reducible refine ExtR ?_ ?_; (first | omega | (dsimp only; omega) | (simp; done) | (simp; omega))) | (with_reducible refine ExtS ?_ ?_; (first | omega | (dsimp only; omega) | (simp; done) | (simp; omega))) | with_reducible refine Ext.tr ?_ (by with_reducible assumption))))).mono ?_); rintro e w2 ⟨A4, c4, rfl, hx2, ho2⟩; have b1 := BlkE b1 hx2; have hx02 : Ext w w2 := (by repeat (first | with_reducible exact Below.refl _ _ | with_reducible assumption | with_reducible refine ExtD ?_ | with_reducible refine ExtDN ?_ | with_reducible refine ExtA ?_ | (with_reducible refine ExtR ?_ ?_; (first | omega | (dsimp only; omega) | (simp; done) | (simp; omega))) | (with_reducible refine ExtS ?_ ?_; (first | omega | (dsimp only; omega) | (simp; done) | (simp; omega))) | with_reducible refine Ext.tr ?_ (by with_reducible assumption))))
    | (with_reducible refine wpL_store_row rfl 24 (.tmp 3) (.tmp 14) rfl _ 24 _ _ rfl rfl (BlkN rfl) ((mf_size' _ _ _ _ _ _ _ _).trans (mf_size' _ _ _ _ _ _ _ _).symm) (mf_one' _ _ _ _ _ _ _ _) 6 mf_wide (mf_size' _ _ _ _ _ _ _ _) ?_))
  have hg0 : w.heap.size < w2.heap.size := b1.lt
  obtain ⟨W3, hW3⟩ : ∃ W3, W3 = (w2.alloc (.cells #[.int .i64 0, .int .i64 0, .int .i64 0, .int .i64 0, .int .i64 0, .slice none 0 0] 24)).setRow w2.heap.size #[.int .i64 m.gen, .int .i64 m.next, .int .i64 m.floor, .int .i64 m.snap, .int .i64 m.snapSeq, .slice A4 m.segs.length c4] := ⟨_, rfl⟩
  have B1 : Blk W3 w.heap.size 24 #[.int .i64 m.gen, .int .i64 m.next, .int .i64 m.floor, .int .i64 m.snap, .int .i64 m.snapSeq, .slice A m.segs.length c] := by rw [hW3]; exact BlkR (Nat.ne_of_lt hg0) (BlkA b1)
  have B3 : Blk W3 w2.heap.size 24 #[.int .i64 m.gen, .int .i64 m.next, .int .i64 m.floor, .int .i64 m.snap, .int .i64 m.snapSeq, .slice A4 m.segs.length c4] := by rw [hW3]; exact Blk.setRow_ (BlkN rfl)
  have hX : Ext w W3 := by rw [hW3]; exact ExtR (Nat.le_of_lt hg0) (ExtA hx02)
  have hO : Hid (SgRd W3 A4 m.segs) := Lib.hid (by rw [hW3]; exact ho2.rd.ext (ExtR (Nat.le_refl _) (ExtA (Ext.rfl' _))))
  rw [← hW3]
  obtain ⟨g3, hg3⟩ : ∃ g3, g3 = w2.heap.size := ⟨_, rfl⟩
  rw [← hg3] at B3 ⊢
  have hg03 : w.heap.size < g3 := by omega
  clear hW3 hg3 hx1 hx2 hx02 b1 ho2 hg0
  go_upto_region 5 with (first
    | (with_reducible refine wpL_load_row rfl 24 (.tmp 1) rfl _ 24 _ 6 rfl B1 mf_wide (mf_size' _ _ _ _ _ _ _ _) ?_)
    | (go_at_call 8; (with_reducible refine (KRE.out _ (HR.out.ext hX)).mono ?_); rintro e w3 ⟨A5, c5, rfl, hx3, ho3⟩))
  have b1 := BlkE B1 hx3
  have b3 := BlkE B3 hx3
  have hX3 := hX.tr hx3
  have hz6 : w.heap.size ≤ w3.heap.size := hX3.size
  have hO3 : Hid (SgRd w3 A4 m.segs) := Lib.hid (hO.out.ext hx3)
  have HO5 := Lib.hid ho3
  have l5 : ∀ r, (Value.slice A5 n c5).ownBlock = some r → r < w3.heap.size := fun r hr => (ho3.lt r hr).2
  clear hx3 ho3 B1 B3 hX hO
  go_upto_region 6 with (first
    | (with_reducible refine wpL_load_row rfl 24 (.tmp 3) rfl _ 24 _ 6 rfl b3 mf_wide (mf_size' _ _ _ _ _ _ _ _) ?_)
    | (go_at_call 9; (with_reducible refine (KE.out _ _ _ hX3 hO3.out).mono ?_); rintro e w4 ⟨A6, c6, rfl, hx4, ho4⟩))
  have b1 := BlkE b1 hx4
  have b3 := BlkE b3 hx4
  have hX4 := hX3.tr hx4
  have hO4 : Hid (SgRd w4 A4 m.segs) := Lib.hid (hO3.out.ext hx4)
  have HO5 := Lib.hid (own_ext hx4 HO5.out)
  have HO6 := Lib.hid ho4
  have l6 : ∀ r, (Value.slice A6 n c6).ownBlock = some r → w3.heap.size ≤ r ∧ r < w4.heap.size := fun r hr => ho4.lt r hr
  have hz4 : w3.heap.size ≤ w4.heap.size := hx4.size
  clear hx4 ho4
  go_upto_region 7 with (first
    | (with_reducible refine wpL_load_row rfl 24 (.tmp 3) rfl _ 24 _ 6 rfl b3 mf_wide (mf_size' _ _ _ _ _ _ _ _) ?_)
    | (go_at_call 9; (with_reducible refine (KE.out _ _ _ hX4 hO4.out).mono ?_); rintro e w5 ⟨A7, c7, rfl, hx5, ho5⟩))
  have b1 := BlkE b1 hx5
  have b3 := BlkE b3 hx5
  have hX5 := hX4.tr hx5
  have hO5 : Hid (SgRd w5 A4 m.segs) := Lib.hid (hO4.out.ext hx5)
  have HO5 := Lib.hid (own_ext hx5 HO5.out)
  have l7 : ∀ r, (Value.slice A7 n c7).ownBlock = some r → w4.heap.size ≤ r := fun r hr => (ho5.lt r hr).1
  have HO6 := Lib.hid (own_ext hx5 HO6.out)
  have HO7 := Lib.hid ho5
  have hz5 : w4.heap.size ≤ w5.heap.size := hx5.size
  clear hx5 ho5 K0 KC KRE KE
  have KM2 := Lib.hid fun W (hx : Ext w5 W) => KM.out A4 c4 W (hO5.out.ext hx) (HR.out.ext (hX5.tr hx))
  have KZ2 := Lib.hid fun W (hx : Ext w5 W) => KZ.out A4 c4 W (hX5.tr hx) (hO5.out.ext hx)
  have KV2 := Lib.hid fun W (hx : Ext w5 W) => KV.out A4 c4 W (hO5.out.ext hx)
  have KS2 := Lib.hid (KS.out A6 c6 A5 c5 w5 (rd_own HO6.out) (rd_own HO5.out))
  clear KM KZ KV hX3 hO3 hO4
  have hE0 : Hid (decide (E = 0) = ((E : Int) == 0)) := Lib.hid (by by_cases h : E = 0 <;> simp [h])
  have hEE : ((E : Int) != (E : Int)) = false := by simp
  have KV3 : Hid (∀ W, Ext w5 W → Calls Tryd.prog 12 #[.agg #[.int .i64 m.gen, .int .i64 m.next, .int .i64 m.floor, .int .i64 m.snap, .int .i64 m.snapSeq, .slice A4 m.segs.length c4]] W fun e w' => e = .returned (.bool ((E : Int) == 0)) ∧ Ext W w') := Lib.hid fun W hx => by
    have := KV2.out W hx
    rw [hE0.out] at this
    exact this
  clear KV2 hE0
  obtain ⟨bE, hbE⟩ : ∃ b : Bool, b = ((E : Int) == 0) := ⟨_, rfl⟩
  rw [← hbE] at KV3
  have hbE2 : ((E : Int) == 0) = bE := hbE.symm
  clear hbE
  have hBB : (bE != bE) = false := by simp
  go_upto_region 9 with (first
    | (go_at_call 10; (with_reducible refine (KS2.out).mono ?_); rintro e w6 ⟨rfl, hx6⟩; have bb := BlkE b3 hx6; (have f0 : World.cell? w6 ⟨g3, 0, none⟩ = some (.int .i64 m.gen) := Blk.cell bb 0; have f1 : World.cell? w6 ⟨g3, 1, none⟩ = some (.int .i64 m.next) := Blk.cell bb 1; have f2 : World.cell? w6 ⟨g3, 2, none⟩ = some (.int .i64 m.floor) := Blk.cell bb 2; have f3 : World.cell? w6 ⟨g3, 3, none⟩ = some (.int .i64 m.snap) := Blk.cell bb 3; have f4 : World.cell? w6 ⟨g3, 4, none⟩ = some (.int .i64 m.snapSeq) := Blk.cell bb 4; have f5 : World.cell? w6 ⟨g3, 5, none⟩ = some (.slice A4 m.segs.length c4) := Blk.cell bb 5))
    | (go_at_call 11; (with_reducible refine (KZ2.out _ hx6).mono ?_); rintro e w7 ⟨rfl, hx7⟩; have hx67 := hx6.tr hx7; have bb := BlkE b3 hx67; (have h0 : World.cell? w7 ⟨g3, 0, none⟩ = some (.int .i64 m.gen) := Blk.cell bb 0; have h1 : World.cell? w7 ⟨g3, 1, none⟩ = some (.int .i64 m.next) := Blk.cell bb 1; have h2 : World.cell? w7 ⟨g3, 2, none⟩ = some (.int .i64 m.floor) := Blk.cell bb 2; have h3 : World.cell? w7 ⟨g3, 3, none⟩ = some (.int .i64 m.snap) := Blk.cell bb 3; have h4 : World.cell? w7 ⟨g3, 4, none⟩ = some (.int .i64 m.snapSeq) := Blk.cell bb 4; have h5 : World.cell? w7 ⟨g3, 5, none⟩ = some (.slice A4 m.segs.length c4) := Blk.cell bb 5))
    | (go_at_call 12; (with_reducible refine (KV3.out _ hx67).mono ?_); rintro e w8 ⟨rfl, hx8⟩; have hx68 := hx67.tr hx8; have bb := BlkE b3 hx68; (have i0 : World.cell? w8 ⟨g3, 0, none⟩ = some (.int .i64 m.gen) := Blk.cell bb 0; have i1 : World.cell? w8 ⟨g3, 1, none⟩ = some (.int .i64 m.next) := Blk.cell bb 1; have i2 : World.cell? w8 ⟨g3, 2, none⟩ = some (.int .i64 m.floor) := Blk.cell bb 2; have i3 : World.cell? w8 ⟨g3, 3, none⟩ = some (.int .i64 m.snap) := Blk.cell bb 3; have i4 : World.cell? w8 ⟨g3, 4, none⟩ = some (.int .i64 m.snapSeq) := Blk.cell bb 4; have i5 : World.cell? w8 ⟨g3, 5, none⟩ = some (.slice A4 m.segs.length c4) := Blk.cell bb 5); have b9 := BlkE b1 hx68; (have j0 : World.cell? w8 ⟨w.heap.size, 0, none⟩ = some (.int .i64 m.gen) := Blk.cell b9 0; have j1 : World.cell? w8 ⟨w.heap.size, 1, none⟩ = some (.int .i64 m.next) := Blk.cell b9 1; have j2 : World.cell? w8 ⟨w.heap.size, 2, none⟩ = some (.int .i64 m.floor) := Blk.cell b9 2; have j3 : World.cell? w8 ⟨w.heap.size, 3, none⟩ = some (.int .i64 m.snap) := Blk.cell b9 3; have j4 : World.cell? w8 ⟨w.heap.size, 4, none⟩ = some (.int .i64 m.snapSeq) := Blk.cell b9 4; have j5 : World.cell? w8 ⟨w.heap.size, 5, none⟩ = some (.slice A m.segs.length c) := Blk.cell b9 5))
    | (go_at_call 13; (with_reducible refine (KM2.out _ hx68).mono ?_); rintro e w9 ⟨rfl, hx9⟩; have hx59 := hx68.tr hx9))
  have hX9 := hX5.tr hx59
  have O5 := Lib.hid (own_ext hx59 HO5.out)
  have O6 := own_ext hx59 HO6.out
  have O7 := Lib.hid (own_ext hx59 HO7.out)
  clear hx6 hx7 hx8 hx9 hx67 hx68 hx59 f0 f1 f2 f3 f4 f5 h0 h1 h2 h3 h4 h5 i0 i1 i2 i3 i4 i5 j0 j1 j2 j3 j4 j5 bb b9 b1 b3 KM2 KZ2 KV3 KS2 HO5 HO6 HO7 hO5
  by_cases hn0 : n = 0
  · subst hn0
    have KF := Lib.hid fun W (hx : Ext w9 W) => KS.out A7 c7 A5 c5 W ((rd_own O7.out).ext hx) ((rd_own O5.out).ext hx)
    go_wp2_with fail
    go_loopw [10, 61] (fun _ c61 wr => c61 = .int .i64 0 ∧ Ext w9 wr) (fun _ _ _ => 0)
    case atStart => exact ⟨rfl, Ext.rfl' _⟩
    case round =>
      obtain ⟨rfl, hx⟩ := hrel
      go_wp2_with (go_at_call 10; (with_reducible refine (KF.out _ hx).mono ?_); rintro e wa ⟨rfl, hxa⟩)
      go_ret
      exact ⟨rfl, (hX9.tr hx).tr hxa⟩
  obtain ⟨g, cur, rfl, hgb, hb, hsz, hcell⟩ := own_formB O6 (by omega)
  obtain ⟨hg1, hg2⟩ := l6 g rfl
  have HX9 := Lib.hid hX9
  have O5' : ∀ W, w9.grownBy W (some g) → Rd W A5 n (u8s bs) := fun W hg => rd_own (World.ownsRow.kept O5.out hg (.inr (fun hc => by have := l5 _ hc; omega)))
  have O7' : ∀ W, w9.grownBy W (some g) → Rd W A7 n (u8s bs) := fun W hg => rd_own (World.ownsRow.kept O7.out hg (.inr (fun hc => by have := l7 _ hc; omega)))
  have KF := Lib.hid fun W (hg : w9.grownBy W (some g)) => KS.out A7 c7 A5 c5 W (O7' W hg) (O5' W hg)
  clear O6 O5 O7 O5' O7' hgb hX9
  go_wp2_with fail
  go_loopw [10, 61] (fun _ c61 wr => BwR w9 g n c61 wr) (fun _ c61 _ => n - (intOf c61).toNat)
  case atStart => exact ⟨0, cur, rfl, by omega, hb, hsz, hcell, World.grownBy.refl _ _⟩
  case round =>
    obtain ⟨k, cs, rfl, hk, hbk, hsk, hck, hgr⟩ := hrel
    have HG := Lib.hid hgr
    by_cases hlt : k < n
    · obtain ⟨x, hx⟩ := hck k hlt
      have ek : wr.cell? ⟨g, k, none⟩ = some (.int .u8 x) := (hbk.cell k).trans hx
      have fk : wr.frozen? ⟨g, k, none⟩ = false := hbk.frozen k
      have HCk := Lib.hid hck
      have HB := Lib.hid hbk
      clear hck hbk hgr
      go_wp2_with fail
      go_roundw
      case rel => exact ⟨k + 1, _, by go_num, by omega, BlkS HB.out, by simpa using hsk, fun i hi => by
        rw [Array.getElem?_setIfInBounds]
        by_cases h : k = i
        · rw [if_pos h, if_pos (by omega)]
          exact ⟨_, rfl⟩
        · rw [if_neg h]
          exact HCk.out i hi, grown_set HG.out _⟩
      case measure => simp [intOf]; omega
    · obtain rfl : k = n := by omega
      clear hck hbk
      go_wp2_with (go_at_call 10; (with_reducible refine (KF.out _ HG.out).mono ?_); rintro e wa ⟨rfl, hxa⟩)
      go_ret
      exact ⟨rfl, (Ext.grown HX9.out HG.out (fun r hr => by cases hr; omega)).tr hxa⟩
end Go.Proofs.YtjomgppbialeoaaDoor
