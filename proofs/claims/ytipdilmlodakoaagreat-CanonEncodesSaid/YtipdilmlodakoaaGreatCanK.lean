/-
  The walk of CanonEncodes: every record and Size, against the reference; the record is new memory.
-/
import Derived.Test.YtipdilmlodakoaaGreatCanF
import Derived.Test.YtipdilmlodakoaaGreatOpenO
namespace Go.Proofs.YtipdilmlodakoaaGreat
open Go.RowKit
set_option linter.unusedVariables false
set_option linter.unusedSimpArgs false
theorem canE_len (s : St) : (canE s).1.length ≤ 420 := by
  unfold canE
  split
  · rename_i h
    have h1 := refF_enc (valid_iff.1 h)
    unfold encR
    rw [if_pos h1]
    exact refF_len (valid_iff.1 h)
  · simp
set_option maxRecDepth 100000 in
set_option maxHeartbeats 8000000 in
theorem canonEncodes_walk (s : St) (A : Option Addr) (c : Nat) (w : World) (hr : LsRd w A s.lines) (hs : StWf s) :
    Calls Tryz.prog 3 #[.agg (stcells s A c)] w fun e w' => e = .returned (.bool true) ∧ Ext w w' := by
  obtain ⟨-, -, hw, hl, -⟩ := hs
  have KH := Lib.hid chead_any
  have KC := Lib.hid fun W (hx : Ext w W) => scopy_any s A c W (hr.ext hx) (by omega)
  have KR := Lib.hid fun W (hx : Ext w W) => renc9_any s A c W (hr.ext hx) (by omega) (by omega)
  have KE := Lib.hid fun W A2 c2 (h : LsRd W A2 s.lines) => cenc_any s A2 c2 W h (by omega) (by omega)
  have KZ := Lib.hid fun W A2 c2 (h : LsRd W A2 s.lines) => csize_any s A2 c2 W h (by omega) (by omega)
  have KS := Lib.hid fun W A2 c2 (h : LsRd W A2 s.lines) (h2 : LsRd W A s.lines) => ssame_any s A2 A c2 c W h h2 (by omega)
  have KB : Hid (∀ W A1 A2 c1 c2, Rd W A1 (canE s).1.length (u8s (canE s).1) → Rd W A2 (canE s).1.length (u8s (canE s).1) → Calls Tryz.prog 8 #[.slice A1 (canE s).1.length c1, .slice A2 (canE s).1.length c2] W fun e w' => e = .returned (.bool true) ∧ Ext W w') := Lib.hid fun W A1 A2 c1 c2 h h2 => by
    have := same_any A1 A2 _ c1 _ c2 (canE s).1 (canE s).1 W h h2 (by have := canE_len s; simp only [maxLen]; omega)
    rwa [decide_eq_true rfl] at this
  have HR := Lib.hid fun W (hx : Ext w W) => hr.ext hx
  have hlen := canE_len s
  unfold CopPost at KC
  unfold CanEPost at KE KR
  clear hr hl hw
  generalize (canE s).1 = R at *
  generalize (canE s).2 = E at *
  generalize hN : R.length = nR at *
  have HN := Lib.hid hN
  clear hN
  go_enter Tryz.func3, Tryz.ntmps3
  go_upto_region 9 with (first
    | (go_at_call 4; (with_reducible refine (KH.out _).mono ?_); rintro e w1 ⟨rfl, hx1⟩; have b1 : Blk w1 w.heap.size 25 (stcells s A c) := BlkE (BlkN rfl) hx1; have hX1 : Ext w w1 := (by repeat (first | with_reducible exact Below.refl _ _ | with_reducible assumption | with_reducible refine ExtD ?_ | with_reducible refine ExtDN ?_ | with_reducible refine ExtA ?_ | (with_reducible refine ExtR ?_ ?_; (first | omega | (dsimp only; omega) | (simp; done) | (simp; omega))) | (with_reducible refine ExtS ?_ ?_; (first | omega | (dsimp only; omega) | (simp; done) | (simp; omega))) | with_reducible refine Ext.tr ?_ (by with_reducible assumption))))
    | (with_reducible refine wpL_load_row (o := ⟨some 13, _, _, _, _, _⟩) rfl 25 (.tmp 1) rfl _ 25 _ 12 rfl b1 st_wide (st12_size _ _ _) ?_)
    | (go_at_call 5; (with_reducible refine (KC.out _ hX1).mono ?_); rintro e w2 ⟨A2, c2, rfl, hx2, ho2⟩; have O2 := Lib.hid ho2; clear ho2; have b2 := BlkE b1 hx2)
    | (change wpList _ _ _ (⟨none, .store _ (.tmp 3) (.tmp 14), _, _, _, _⟩ :: _) _ _; refine wpL_store_new rfl 25 (.tmp 3) (.tmp 14) rfl _ 25 _ _ rfl rfl (by first | rfl | simp) rfl (st12_one _ _ _) 12 st_wide (st12_size _ _ _) ?_)
    | (with_reducible refine wpL_load_row_w (o := ⟨some 16, _, _, _, _, _⟩) (by kernel_rfl) 25 (.tmp 1) rfl _ 25 _ 12 rfl (BlkA b2) st_wide (st12_size _ _ _) ?_)
    | (go_at_call 6; (with_reducible refine (KR.out _ (by have hX2 : Ext w w2 := hX1.tr hx2; exact ExtA hX2)).mono ?_); rintro e w3 ⟨A3, c3, rfl, hx3, ho3⟩; have O3 := Lib.hid ho3; clear ho3; have b3 : Blk w3 w.heap.size 25 (stcells s A c) := BlkE (BlkA b2) hx3; have m3 : Blk w3 w2.heap.size 25 (stcells s A2 c2) := BlkE (BlkN rfl) hx3; have L3 : Hid (∀ W, Ext w3 W → LsRd W A2 s.lines) := Lib.hid fun W h => (O2.out.rd.ext (ExtA (Ext.rfl' _))).ext (hx3.tr h); have hX3 : Ext w w3 := (ExtA (hX1.tr hx2)).tr hx3)
    | (with_reducible refine wpL_load_row (o := ⟨some 21, _, _, _, _, _⟩) rfl 25 (.tmp 3) rfl _ 25 _ 12 rfl m3 st_wide (st12_size _ _ _) ?_)
    | (go_at_call 7; (with_reducible refine (KE.out w3 _ _ (L3.out _ (Ext.rfl' _))).mono ?_); rintro e w4 ⟨A4, c4, rfl, hx4, ho4⟩; have O4 := Lib.hid ho4; clear ho4; have m4 := BlkE m3 hx4)
    | (with_reducible refine wpL_load_row (o := ⟨some 26, _, _, _, _, _⟩) rfl 25 (.tmp 3) rfl _ 25 _ 12 rfl m4 st_wide (st12_size _ _ _) ?_)
    | (go_at_call 7; (with_reducible refine (KE.out w4 _ _ (L3.out _ hx4)).mono ?_); rintro e w5 ⟨A5, c5, rfl, hx5, ho5⟩; have O5 := Lib.hid ho5; clear ho5; have m5 := BlkE m4 hx5; have hx35 : Ext w3 w5 := hx4.tr hx5; have hx45 := Lib.hid hx5)
    | (go_at_call 8; (with_reducible refine (KB.out _ _ _ _ _ ((rd_own O4.out).ext hx5) ((rd_own O3.out).ext hx35)).mono ?_); rintro e w6 ⟨rfl, hx6⟩; have m6 := BlkE m5 hx6; have hx36 : Ext w3 w6 := hx35.tr hx6)
    | (with_reducible refine wpL_load_row_w (o := ⟨some 40, _, _, _, _, _⟩) (by kernel_rfl) 25 (.tmp 3) rfl _ 25 _ 12 rfl m6 st_wide (st12_size _ _ _) ?_)
    | (go_at_call 9; (with_reducible refine (KZ.out _ _ _ (L3.out _ hx36)).mono ?_); rintro e w7 ⟨rfl, hx7⟩; have m7 := BlkE m6 hx7; have hx37 : Ext w3 w7 := hx36.tr hx7; have b7 : Blk w7 w.heap.size 25 (stcells s A c) := BlkE b3 hx37)
    | (with_reducible refine wpL_load_row_w (o := ⟨some 47, _, _, _, _, _⟩) (by kernel_rfl) 25 (.tmp 3) rfl _ 25 _ 12 rfl m7 st_wide (st12_size _ _ _) ?_)
    | (with_reducible refine wpL_load_row_w (o := ⟨some 48, _, _, _, _, _⟩) (by kernel_rfl) 25 (.tmp 1) rfl _ 25 _ 12 rfl b7 st_wide (st12_size _ _ _) ?_)
    | (go_at_call 10; (with_reducible refine (KS.out _ _ _ (L3.out _ hx37) (HR.out _ (hX3.tr hx37))).mono ?_); rintro e w8 ⟨rfl, hx8⟩))
  have hx38 : Ext w3 w8 := hx37.tr hx8
  have z34 : w3.heap.size ≤ w4.heap.size := hx4.size
  have hx48 : Ext w4 w8 := ((hx45.out.tr hx6).tr hx7).tr hx8
  have hA4 : ∀ r ∈ blkOf A4, w3.heap.size ≤ r ∧ r < w4.heap.size := fun r hr => O4.out.lt r (own_blkOf hr)
  have P4 := own_ext hx48 O4.out
  have P5 := own_ext (((hx6).tr hx7).tr hx8) O5.out
  have P3 := own_ext hx38 O3.out
  have d5 : ∀ r, (Value.slice A5 nR c5).ownBlock = some r → r ∉ blkOf A4 := fun r hr hc => by have h1 := (O5.out.lt r hr).1; have h2 := (hA4 r hc).2; omega
  have d3 : ∀ r, (Value.slice A3 nR c3).ownBlock = some r → r ∉ blkOf A4 := fun r hr hc => by have h1 := (O3.out.lt r hr).2; have h2 := (hA4 r hc).1; omega
  have HX8 := Lib.hid (show Ext w w8 from hX3.tr hx38)
  have hw3 : w.heap.size ≤ w3.heap.size := hX3.size
  have HA4 := Lib.hid (show ∀ r ∈ blkOf A4, w.heap.size ≤ r from fun r hr => by have := (hA4 r hr).1; omega)
  have B4 := bi_of P4
  have Q5 := Lib.hid P5
  have Q3 := Lib.hid P3
  have D := Lib.hid (And.intro d5 d3)
  clear hx38 hx48 hA4 P4 P5 P3 d5 d3 hx1 hX1 hx2 hX3 hx3 hx4 hx5 hx6 hx7 hx8 hx35 hx36 hx37 b1 b2 b3 m3 m4 m5 m6 m7 b7 O2 O3 O4 O5 L3 KC KR KE KZ KS KH HR
  go_wp2_with fail
  go_loopw [10, 54] (fun _ c54 wr => XorR w8 w3.heap.size A4 nR c4 c54 wr) (fun _ c54 _ => nR - (intOf c54).toNat)
  case atStart => exact ⟨0, rfl, by omega, Turn.refl _ _, B4⟩
  case round =>
    obtain ⟨j, rfl, hj, ht, hb⟩ := hrel
    by_cases hlt : j < nR
    · obtain ⟨bk, q, rfl, _, hcj, hfj, hset⟩ := hb.at hlt
      have Hset := Lib.hid hset
      have Ht := Lib.hid ht
      clear hset ht hb
      go_wp2_with fail
      go_roundw
      case rel => exact ⟨j + 1, by go_num, by omega, Ht.out.tr (Turn.cell (by simp [blkOf])), Hset.out _⟩
      case measure => simp [intOf]; omega
    · obtain rfl : j = nR := by omega
      have R5 := Lib.hid (rd_own (ht.own Q5.out D.out.1))
      have R3 := Lib.hid (rd_own (ht.own Q3.out D.out.2))
      have hXr : Ext w wr := ht.ext HX8.out HA4.out
      clear ht hb
      go_wp2_with (go_at_call 8; (with_reducible refine (KB.out _ _ _ _ _ R5.out R3.out).mono ?_); rintro e w9 ⟨rfl, hx9⟩)
      go_ret
      exact ⟨rfl, (by repeat (first | with_reducible exact Below.refl _ _ | with_reducible assumption | with_reducible refine ExtD ?_ | with_reducible refine ExtDN ?_ | with_reducible refine ExtA ?_ | (with_reducible refine ExtR ?_ ?_; (first | omega | (dsimp only; omega) | (simp; done) | (simp; omega))) | (with_reducible refine ExtS ?_ ?_; (first | omega | (dsimp only; omega) | (simp; done) | (simp; omega))) | with_reducible refine Ext.tr ?_ (by with_reducible assumption)))⟩
end Go.Proofs.YtipdilmlodakoaaGreat
