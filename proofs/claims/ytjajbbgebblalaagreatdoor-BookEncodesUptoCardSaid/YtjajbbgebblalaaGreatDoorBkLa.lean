/-
  The walk of BookEncodes.
-/
import Derived.Test.YtjajbbgebblalaaGreatDoorBkH
namespace Go.Proofs.YtjajbbgebblalaaGreatDoor
open Go.RowKit
set_option linter.unusedVariables false
set_option linter.unusedSimpArgs false
/-- A row of bytes that is written over: each cell is some byte; blocks but its own stay. -/
def BwB (W : World) (g n : Nat) (c61 : Value) (wr : World) : Prop :=
  ∃ (k : Nat) (cs : Array Value), c61 = .int .i64 (k : Nat) ∧ k ≤ n ∧ Blk wr g 5 cs ∧ n ≤ cs.size ∧ (∀ i, i < n → ∃ x : Int, cs[i]? = some (.int .u8 x)) ∧ W.grownBy wr (some g)
theorem bown_form {w : World} {base n c : Nat} {A : Option Addr} {l : List UInt8} (h : w.ownsRow base 5 1 (.slice A n c) n (u8s l)) (h0 : 0 < n) : ∃ g cur, A = some ⟨g, 0, none⟩ ∧ base ≤ g ∧ Blk w g 5 cur ∧ n ≤ cur.size ∧ ∀ i, i < n → ∃ x : Int, cur[i]? = some (.int .u8 x) := by
  have hl := h.1
  have hln := own_len h
  rcases h.2 with ⟨h1, h2⟩ | ⟨g, cap, cur, h1, h2, h3, h4, h5, h6, h7⟩
  · omega
  · injection h1 with h8 h9 h10
    refine ⟨g, cur, h8, h2, h3, by rw [h6]; omega, fun i hi => ?_⟩
    have h9 : (cur.toList.take (n * 1))[i]? = (u8s l)[i]? := by rw [h7]
    rw [List.getElem?_take, if_pos (by omega)] at h9
    have h10 : (u8s l)[i]? = some (.int .u8 ((l.getD i 0).toNat : Nat)) := by
      unfold u8s
      rw [List.getElem?_map, List.getD_eq_getElem?_getD, List.getElem?_eq_getElem (by omega)]
      rfl
    rw [h10] at h9
    exact ⟨_, by simpa using h9⟩
set_option maxRecDepth 100000 in
set_option maxHeartbeats 8000000 in
theorem bookEncodes_walk (num seq : Int) (ss : List St) (A : Option Addr) (n c : Nat) (w : World) (hN : Nib w) (hr : SsRd w A n ss) (hn : n ≤ 1048576) (hs : SsSm ss) :
    Calls Tryz.prog 4 #[.int .i64 num, .int .i64 seq, .slice A n c] w fun e w' => e = .returned (.bool true) ∧ Ext w w' := by
  have hlen := hr.len
  have HR := Lib.hid hr
  have K0 := Lib.hid fun W (hx : Ext w W) => bhead_any W (hN.ext hx)
  have KC := Lib.hid fun W (hx : Ext w W) => bcopy_any ss A n c W (hr.ext hx) (by omega) hs
  have KRE := Lib.hid fun W (hx : Ext w W) => rbenc_any num seq ss A n c W (hr.ext hx) hn hs
  have KE := Lib.hid fun A2 c2 W (hx : Ext w W) (h : SsRd W A2 n ss) => benc_any num seq ss A2 n c2 W (hN.ext hx) h hn hs
  have KM := Lib.hid fun A2 c2 W (h : SsRd W A2 n ss) (h2 : SsRd W A n ss) => bsame_any ss A2 A n c2 c W h h2 (by omega) hs
  have hlE := bkE_le num seq ss
  unfold GaveSs at KC
  rw [hlen] at KC hlE
  unfold BkPost at KRE KE
  generalize bkE num seq ss = r at *
  obtain ⟨bs, E⟩ := r
  dsimp only at KRE KE hlE
  have KS := Lib.hid fun A1 c1 A2 c2 W (h : Rd W A1 bs.length (u8s bs)) (h2 : Rd W A2 bs.length (u8s bs)) => same_any A1 A2 bs.length c1 bs.length c2 bs bs W h h2 (by unfold maxLen; omega)
  rw [decide_eq_true rfl] at KS
  obtain ⟨m, hm⟩ : ∃ m, m = bs.length := ⟨_, rfl⟩
  rw [← hm] at KRE KE KS hlE
  have hEE : ((E : Int) != (E : Int)) = false := by simp
  clear hN hr hs hlen hm
  go_enter Tryz.func4, Tryz.ntmps4
  go_upto_region 7 with (first
    | (go_at_call 25; (with_reducible refine (K0.out _ (Ext.rfl' _)).mono ?_); rintro e w1 ⟨rfl, hx1⟩)
    | (go_at_call 26; (with_reducible refine (KC.out _ hx1).mono ?_); rintro e w2 ⟨A2, c2, hs2, rfl, hm2, hx2, ho2⟩; have X2 := hx1.tr hx2; have R2 := rd_ss ho2 hm2)
    | (go_at_call 27; (with_reducible refine (KRE.out _ X2).mono ?_); rintro e w3 ⟨A5, c5, rfl, hx3, ho3⟩; have X3 := X2.tr hx3; have R3 := R2.ext hx3)
    | (go_at_call 28; go_loud (first
        | (with_reducible refine (KE.out _ _ _ X4 R4).mono ?_; rintro e w5 ⟨A7, c7, rfl, hx5, ho5⟩)
        | (with_reducible refine (KE.out _ _ _ X3 R3).mono ?_; rintro e w4 ⟨A6, c6, rfl, hx4, ho4⟩; have X4 := X3.tr hx4; have R4 := SsRd.ext R3 hx4))))
  have X5 := X4.tr hx5
  have R5 := R4.ext hx5
  have l5 : ∀ r, (Value.slice A5 m c5).ownBlock = some r → r < w3.heap.size := fun r hr => (ho3.lt r hr).2
  have l6 : ∀ r, (Value.slice A6 m c6).ownBlock = some r → w3.heap.size ≤ r ∧ r < w4.heap.size := fun r hr => ho4.lt r hr
  have l7 : ∀ r, (Value.slice A7 m c7).ownBlock = some r → w4.heap.size ≤ r := fun r hr => (ho5.lt r hr).1
  have O5 := own_ext (hx4.tr hx5) ho3
  have O6 := own_ext hx5 ho4
  have O7 := ho5
  have hz3 : w.heap.size ≤ w3.heap.size := X3.size
  clear hx1 hx2 ho2 hx3 ho3 hx4 ho4 hx5 ho5 K0 KC KRE KE R2 R3 R4 X2 X3 X4 hm2
  have KM2 := Lib.hid fun W (hx : Ext w5 W) => KM.out A2 c2 W (R5.ext hx) (HR.out.ext (X5.tr hx))
  have KS2 := Lib.hid (KS.out A6 c6 A5 c5 w5 (rd_own O6) (rd_own O5))
  go_upto_region 9 with (first
    | (go_at_call 29; (with_reducible refine (KS2.out).mono ?_); rintro e w6 ⟨rfl, hx6⟩)
    | (go_at_call 30; (with_reducible refine (KM2.out _ hx6).mono ?_); rintro e w9 ⟨rfl, hx9⟩; have hx59 := hx6.tr hx9))
  have hX9 := X5.tr hx59
  have O5 := Lib.hid (own_ext hx59 O5)
  have O6 := own_ext hx59 O6
  have O7 := Lib.hid (own_ext hx59 O7)
  clear hx6 hx9 hx59 KM2 KS2 R5 X5
  by_cases hn0 : m = 0
  · subst hn0
    have KF := Lib.hid fun W (hx : Ext w9 W) => KS.out A7 c7 A5 c5 W ((rd_own O7.out).ext hx) ((rd_own O5.out).ext hx)
    go_wp2_with fail
    go_loopw [14, 57] (fun _ c57 wr => c57 = .int .i64 0 ∧ Ext w9 wr) (fun _ _ _ => 0)
    case atStart => exact ⟨rfl, Ext.rfl' _⟩
    case round =>
      obtain ⟨rfl, hx⟩ := hrel
      go_wp2_with (go_at_call 29; (with_reducible refine (KF.out _ hx).mono ?_); rintro e wa ⟨rfl, hxa⟩)
      go_ret
      exact ⟨rfl, (hX9.tr hx).tr hxa⟩
  obtain ⟨g, cur, rfl, hgb, hb, hsz, hcell⟩ := bown_form O6 (by omega)
  obtain ⟨hg1, hg2⟩ := l6 g rfl
  have HX9 := Lib.hid hX9
  have O5' : ∀ W, w9.grownBy W (some g) → Rd W A5 m (u8s bs) := fun W hg => rd_own (World.ownsRow.kept O5.out hg (.inr (fun hc => by have := l5 _ hc; omega)))
  have O7' : ∀ W, w9.grownBy W (some g) → Rd W A7 m (u8s bs) := fun W hg => rd_own (World.ownsRow.kept O7.out hg (.inr (fun hc => by have := l7 _ hc; omega)))
  have KF := Lib.hid fun W (hg : w9.grownBy W (some g)) => KS.out A7 c7 A5 c5 W (O7' W hg) (O5' W hg)
  clear O6 O5 O7 O5' O7' hgb hX9
  go_wp2_with fail
  go_loopw [14, 57] (fun _ c57 wr => BwB w9 g m c57 wr) (fun _ c57 _ => m - (intOf c57).toNat)
  case atStart => exact ⟨0, cur, rfl, by omega, hb, hsz, hcell, World.grownBy.refl _ _⟩
  case round =>
    obtain ⟨k, cs, rfl, hk, hbk, hsk, hck, hgr⟩ := hrel
    have HG := Lib.hid hgr
    by_cases hlt : k < m
    · obtain ⟨x, hx⟩ := hck k hlt
      have ek : wr.cell? ⟨g, k, none⟩ = some (.int .u8 x) := (hbk.cell k).trans hx
      have fk : wr.frozen? ⟨g, k, none⟩ = false := hbk.frozen k
      have HCk := Lib.hid hck
      have HB := Lib.hid hbk
      clear hck hbk hgr
      go_wp2_with fail
      go_roundw
      case rel => exact ⟨k + 1, _, by go_num, by omega, BlkS HB.out, by simpa using hsk, fun i hi => by
        rw [Array.getElem?_setIfInBounds]
        by_cases h : k = i
        · rw [if_pos h, if_pos (by omega)]
          exact ⟨_, rfl⟩
        · rw [if_neg h]
          exact HCk.out i hi, grown_set HG.out _⟩
      case measure => simp [intOf]; omega
    · obtain rfl : k = m := by omega
      clear hck hbk
      go_wp2_with (go_at_call 29; (with_reducible refine (KF.out _ HG.out).mono ?_); rintro e wa ⟨rfl, hxa⟩)
      go_ret
      exact ⟨rfl, (Ext.grown HX9.out HG.out (fun r hr => by cases hr; omega)).tr hxa⟩
end Go.Proofs.YtjajbbgebblalaaGreatDoor
