/-
  The walk of ManifestDecodes.
-/
import Derived.Test.YtjomgppbialeoaaDoorManH
import Derived.Test.YtjomgppbialeoaaDoorManC
namespace Go.Proofs.YtjomgppbialeoaaDoor
open Go.RowKit
set_option linter.unusedVariables false
set_option linter.unusedSimpArgs false
theorem manD_len (l : List UInt8) : (manD l).1.segs.length ≤ 256 := by
  rcases manD_or l with h | h
  · obtain ⟨h1, _⟩ := manD_inv (b := l) (m := (manD l).1) (by rw [← h])
    exact (man_ok h1).len
  · rw [h]; decide
/-- A row of segments that is written over; blocks but its own stay. -/
def SwR (W : World) (g n : Nat) (v : Value) (wr : World) : Prop :=
  ∃ (k : Nat) (cs : Array Value), v = .int .i64 (k : Nat) ∧ k ≤ n ∧ Blk wr g 43 cs ∧ n * 4 ≤ cs.size ∧ W.grownBy wr (some g)
set_option maxRecDepth 100000 in
set_option maxHeartbeats 8000000 in
theorem manifestDecodes_walk (A : Option Addr) (n c : Nat) (l : List UInt8) (w : World) (hN : Nib w) (hr : Rd w A n (u8s l)) (hnc : n ≤ c) (hn : n ≤ 140737488351232) :
    Calls Tryd.prog 4 #[.slice A n c] w fun e w' => e = .returned (.bool true) ∧ Ext w w' := by
  have hll : l.length = n := by have := hr.1; rw [u8s_len] at this; exact this
  have hmx : n ≤ maxLen := by unfold maxLen; omega
  have HR := Lib.hid hr
  have K0 := Lib.hid fun W (hx : Ext w W) => mhead_any W (hN.ext hx)
  have KC := Lib.hid fun W (h : Rd W A n (u8s l)) => copy_any A n c l W h (by omega)
  have KR := Lib.hid fun W (h : Rd W A n (u8s l)) => mrdec_any A n c l W h hnc hmx
  have KD := Lib.hid fun A2 c2 W (hx : Ext w W) (h : Rd W A2 n (u8s l)) (hc : n ≤ c2) => mdec_any A2 n c2 l W (hN.ext hx) h hc hmx
  have KS := Lib.hid fun A2 c2 W (h : Rd W A2 n (u8s l)) (h2 : Rd W A n (u8s l)) => same_any A2 A n c2 n c l l W h h2 hmx
  rw [decide_eq_true rfl] at KS
  unfold NewB at KC
  rw [hll] at KC
  unfold MdPost at KR KD
  have hml := manD_len l
  generalize manD l = r at *
  obtain ⟨m, E⟩ := r
  dsimp only at KR KD hml
  have KM := Lib.hid fun A1 c1 A2 c2 W (h : SgRd W A1 m.segs) (h2 : SgRd W A2 m.segs) => msame_any m A1 A2 c1 c2 W h h2 (by omega)
  unfold mfcells at KR KD KM
  have hEE : ((E : Int) != (E : Int)) = false := by simp
  clear hN hr hll hnc
  go_enter Tryd.func4, Tryd.ntmps4
  go_upto_region 5 with (first
    | (go_at_call 6; (with_reducible refine (K0.out _ (by repeat (first | with_reducible exact Below.refl _ _ | with_reducible assumption | with_reducible refine ExtD ?_ | with_reducible refine ExtDN ?_ | with_reducible refine ExtA ?_ | (with_reducible refine ExtR ?_ ?_; (first | omega | (dsimp only; omega) | (simp; done) | (simp; omega))) | (with_reducible refine ExtS ?_ ?_; (first | omega | (dsimp only; omega) | (simp; done) | (simp; omega))) | with_reducible refine Ext.tr ?_ (by with_reducible assumption)))).mono ?_); rintro e w1 ⟨rfl, hx1⟩)
    | (go_at_call 14; (with_reducible refine (KC.out _ (HR.out.ext hx1)).mono ?_); rintro e w2 ⟨A2, c2, rfl, hx2, ho2⟩; have hw2 := hx1.tr hx2)
    | (go_at_call 15; (with_reducible refine (KR.out _ (HR.out.ext hw2)).mono ?_); rintro e w3 ⟨A4, c4, rfl, hx3, ho4⟩)
    | (with_reducible refine wpL_store_row rfl 24 (.tmp 4) (.tmp 18) rfl _ 24 _ _ rfl rfl (BlkN rfl) ((mf_size' _ _ _ _ _ _ _ _).trans (mf_size' _ _ _ _ _ _ _ _).symm) (mf_one' _ _ _ _ _ _ _ _) 6 mf_wide (mf_size' _ _ _ _ _ _ _ _) ?_))
  obtain ⟨W3, hW3⟩ : ∃ W3, W3 = (w3.alloc (.cells #[.int .i64 0, .int .i64 0, .int .i64 0, .int .i64 0, .int .i64 0, .slice none 0 0] 24)).setRow w3.heap.size #[.int .i64 m.gen, .int .i64 m.next, .int .i64 m.floor, .int .i64 m.snap, .int .i64 m.snapSeq, .slice A4 m.segs.length c4] := ⟨_, rfl⟩
  have hX3' : Ext w3 W3 := by rw [hW3]; exact ExtR (Nat.le_refl _) (ExtA (Ext.rfl' _))
  have b4 : Blk W3 w3.heap.size 24 #[.int .i64 m.gen, .int .i64 m.next, .int .i64 m.floor, .int .i64 m.snap, .int .i64 m.snapSeq, .slice A4 m.segs.length c4] := by rw [hW3]; exact Blk.setRow_ (BlkN rfl)
  rw [← hW3]
  obtain ⟨g4, hg4⟩ : ∃ g4, g4 = w3.heap.size := ⟨_, rfl⟩
  rw [← hg4] at b4 ⊢
  have O4 := Lib.hid (own_ext hX3' ho4)
  have l4 : ∀ r, (Value.slice A4 m.segs.length c4).ownBlock = some r → r < w3.heap.size := fun r hr => (ho4.lt r hr).2
  have O2 := Lib.hid (own_ext (hx3.tr hX3') ho2)
  have hcap : n ≤ c2 := own_capB ho2
  have l2 : ∀ r, (Value.slice A2 n c2).ownBlock = some r → r < w2.heap.size := fun r hr => (ho2.lt r hr).2
  have hX3 : Ext w W3 := (hw2.tr hx3).tr hX3'
  have hz3 : w3.heap.size ≤ W3.heap.size := hX3'.size
  have hz2 : w2.heap.size ≤ w3.heap.size := hx3.size
  have hz1 : w.heap.size ≤ w2.heap.size := hw2.size
  clear hW3 hX3' ho4 hx1 hx2 hx3 ho2 hw2 hg4
  go_upto_region 6 with (first
    | (go_at_call 16; (with_reducible refine (KD.out _ _ _ hX3 (rd_own O2.out) hcap).mono ?_); rintro e w5 ⟨A6, c6, rfl, hx5, ho6⟩)
    | (with_reducible refine wpL_store_row rfl 24 (.tmp 6) (.tmp 23) rfl _ 24 _ _ rfl rfl (BlkN rfl) ((mf_size' _ _ _ _ _ _ _ _).trans (mf_size' _ _ _ _ _ _ _ _).symm) (mf_one' _ _ _ _ _ _ _ _) 6 mf_wide (mf_size' _ _ _ _ _ _ _ _) ?_))
  obtain ⟨W5, hW5⟩ : ∃ W5, W5 = (w5.alloc (.cells #[.int .i64 0, .int .i64 0, .int .i64 0, .int .i64 0, .int .i64 0, .slice none 0 0] 24)).setRow w5.heap.size #[.int .i64 m.gen, .int .i64 m.next, .int .i64 m.floor, .int .i64 m.snap, .int .i64 m.snapSeq, .slice A6 m.segs.length c6] := ⟨_, rfl⟩
  have hX5' : Ext w5 W5 := by rw [hW5]; exact ExtR (Nat.le_refl _) (ExtA (Ext.rfl' _))
  have b6 : Blk W5 w5.heap.size 24 #[.int .i64 m.gen, .int .i64 m.next, .int .i64 m.floor, .int .i64 m.snap, .int .i64 m.snapSeq, .slice A6 m.segs.length c6] := by rw [hW5]; exact Blk.setRow_ (BlkN rfl)
  rw [← hW5]
  obtain ⟨g6, hg6⟩ : ∃ g6, g6 = w5.heap.size := ⟨_, rfl⟩
  rw [← hg6] at b6 ⊢
  have b4 := BlkE b4 (hx5.tr hX5')
  have O4 := Lib.hid (own_ext (hx5.tr hX5') O4.out)
  have O2 := Lib.hid (own_ext (hx5.tr hX5') O2.out)
  have O6 := Lib.hid (own_ext hX5' ho6)
  have l6 : ∀ r, (Value.slice A6 m.segs.length c6).ownBlock = some r → W3.heap.size ≤ r ∧ r < w5.heap.size := fun r hr => ho6.lt r hr
  have hX5 : Ext w W5 := (hX3.tr hx5).tr hX5'
  have hz5 : w5.heap.size ≤ W5.heap.size := hX5'.size
  have hz4 : W3.heap.size ≤ w5.heap.size := hx5.size
  clear hW5 hX5' ho6 hx5 hX3 hg6
  go_upto_region 7 with (first
    | (go_at_call 16; (with_reducible refine (KD.out _ _ _ hX5 (rd_own O2.out) hcap).mono ?_); rintro e w7 ⟨A8, c8, rfl, hx7, ho8⟩)
    | (with_reducible refine wpL_store_row rfl 24 (.tmp 8) (.tmp 28) rfl _ 24 _ _ rfl rfl (BlkN rfl) ((mf_size' _ _ _ _ _ _ _ _).trans (mf_size' _ _ _ _ _ _ _ _).symm) (mf_one' _ _ _ _ _ _ _ _) 6 mf_wide (mf_size' _ _ _ _ _ _ _ _) ?_))
  obtain ⟨W7, hW7⟩ : ∃ W7, W7 = (w7.alloc (.cells #[.int .i64 0, .int .i64 0, .int .i64 0, .int .i64 0, .int .i64 0, .slice none 0 0] 24)).setRow w7.heap.size #[.int .i64 m.gen, .int .i64 m.next, .int .i64 m.floor, .int .i64 m.snap, .int .i64 m.snapSeq, .slice A8 m.segs.length c8] := ⟨_, rfl⟩
  have hX7' : Ext w7 W7 := by rw [hW7]; exact ExtR (Nat.le_refl _) (ExtA (Ext.rfl' _))
  have b8 : Blk W7 w7.heap.size 24 #[.int .i64 m.gen, .int .i64 m.next, .int .i64 m.floor, .int .i64 m.snap, .int .i64 m.snapSeq, .slice A8 m.segs.length c8] := by rw [hW7]; exact Blk.setRow_ (BlkN rfl)
  rw [← hW7]
  obtain ⟨g8, hg8⟩ : ∃ g8, g8 = w7.heap.size := ⟨_, rfl⟩
  rw [← hg8] at b8 ⊢
  have b4 := BlkE b4 (hx7.tr hX7')
  have b6 := BlkE b6 (hx7.tr hX7')
  have O4 := Lib.hid (own_ext (hx7.tr hX7') O4.out)
  have O2 := Lib.hid (own_ext (hx7.tr hX7') O2.out)
  have O6 := Lib.hid (own_ext (hx7.tr hX7') O6.out)
  have O8 := Lib.hid (own_ext hX7' ho8)
  have l8 : ∀ r, (Value.slice A8 m.segs.length c8).ownBlock = some r → W5.heap.size ≤ r := fun r hr => (ho8.lt r hr).1
  have hX7 : Ext w W7 := (hX5.tr hx7).tr hX7'
  have hz7 : w7.heap.size ≤ W7.heap.size := hX7'.size
  have hz6 : W5.heap.size ≤ w7.heap.size := hx7.size
  clear hW7 hX7' ho8 hx7 hX5 K0 KC KR KD hg8
  have KM1 := Lib.hid (KM.out A6 c6 A4 c4 W7 (OwnSg.rd O6.out) (OwnSg.rd O4.out))
  have KS1 := Lib.hid fun W (hx : Ext W7 W) => KS.out A2 c2 W ((rd_own O2.out).ext hx) (HR.out.ext (hX7.tr hx))
  (have f0 : World.cell? W7 ⟨g6, 0, none⟩ = some (.int .i64 m.gen) := Blk.cell b6 0; have f1 : World.cell? W7 ⟨g6, 1, none⟩ = some (.int .i64 m.next) := Blk.cell b6 1; have f2 : World.cell? W7 ⟨g6, 2, none⟩ = some (.int .i64 m.floor) := Blk.cell b6 2; have f3 : World.cell? W7 ⟨g6, 3, none⟩ = some (.int .i64 m.snap) := Blk.cell b6 3; have f4 : World.cell? W7 ⟨g6, 4, none⟩ = some (.int .i64 m.snapSeq) := Blk.cell b6 4; have f5 : World.cell? W7 ⟨g6, 5, none⟩ = some (.slice A6 m.segs.length c6) := Blk.cell b6 5)
  (have h0 : World.cell? W7 ⟨g4, 0, none⟩ = some (.int .i64 m.gen) := Blk.cell b4 0; have h1 : World.cell? W7 ⟨g4, 1, none⟩ = some (.int .i64 m.next) := Blk.cell b4 1; have h2 : World.cell? W7 ⟨g4, 2, none⟩ = some (.int .i64 m.floor) := Blk.cell b4 2; have h3 : World.cell? W7 ⟨g4, 3, none⟩ = some (.int .i64 m.snap) := Blk.cell b4 3; have h4 : World.cell? W7 ⟨g4, 4, none⟩ = some (.int .i64 m.snapSeq) := Blk.cell b4 4; have h5 : World.cell? W7 ⟨g4, 5, none⟩ = some (.slice A4 m.segs.length c4) := Blk.cell b4 5)
  go_upto_region 9 with (first
    | (go_at_call 13; (with_reducible refine (KM1.out).mono ?_); rintro e w8 ⟨rfl, hx8⟩)
    | (go_at_call 10; (with_reducible refine (KS1.out _ hx8).mono ?_); rintro e w9 ⟨rfl, hx9⟩; have hx79 := hx8.tr hx9))
  have hX9 := hX7.tr hx79
  have b4 := BlkE b4 hx79
  have b6 := BlkE b6 hx79
  have b8 := BlkE b8 hx79
  have P4 := own_ext hx79 O4.out
  have P6 := own_ext hx79 O6.out
  have P8 := own_ext hx79 O8.out
  have hap4 : SNotOwn A4 g4 := mown_apart P4 b4
  have hzw : w.heap.size ≤ W3.heap.size := by omega
  clear hx8 hx9 hx79 f0 f1 f2 f3 f4 f5 h0 h1 h2 h3 h4 h5 KM1 KS1 O4 O6 O8 O2 l2 KS
  obtain ⟨q, hq⟩ : ∃ q, q = m.segs.length := ⟨_, rfl⟩
  have e65 : w9.cell? ⟨g6, 5, none⟩ = some (.slice A6 q c6) := by rw [hq]; exact b6.cell 5
  by_cases hq0 : q = 0
  · have R4 := OwnSg.rd P4
    have R8 := OwnSg.rd P8
    have KM2 := Lib.hid fun W (hx : Ext w9 W) => KM.out A8 c8 A4 c4 W (R8.ext hx) (R4.ext hx)
    rw [hq0] at e65
    clear P4 P6 P8 R4 R8 hq hq0
    have e65' := e65
    go_wp2_with fail
    go_loopw [10, 48] (fun _ v wr => v = .int .i64 0 ∧ Ext w9 wr) (fun _ _ _ => 0)
    case atStart => exact ⟨rfl, Ext.rfl' _⟩
    case round =>
      obtain ⟨rfl, hx⟩ := hrel
      have d4 := BlkE b4 hx
      have d8 := BlkE b8 hx
      go_wp2_with (first
        | (with_reducible refine wpL_load_row rfl 24 (.tmp 8) rfl _ 24 _ 6 rfl d8 mf_wide (mf_size' _ _ _ _ _ _ _ _) ?_)
        | (with_reducible refine wpL_load_row rfl 24 (.tmp 4) rfl _ 24 _ 6 rfl d4 mf_wide (mf_size' _ _ _ _ _ _ _ _) ?_)
        | (go_at_call 13; (with_reducible refine (KM2.out _ hx).mono ?_); rintro e wa ⟨rfl, hxa⟩))
      go_ret
      exact ⟨rfl, (hX9.tr hx).tr hxa⟩
  obtain ⟨g, cur, hA6, hgb, hb, hsz, hcell⟩ := sown_form P6 (by omega)
  have hcq : q ≤ c6 := by have := (sown_cap P6).1; omega
  obtain ⟨hl6, hl6'⟩ := l6 g (by rw [hA6]; rfl)
  subst hA6
  have n6 : some g6 ≠ some g := fun h => mown_apart P6 b6 0 0 h.symm
  have n4 : some g4 ≠ some g := fun h => mown_apart P6 b4 0 0 h.symm
  have n8 : some g8 ≠ some g := fun h => mown_apart P6 b8 0 0 h.symm
  have HX9 := Lib.hid hX9
  have Q4 : ∀ W, w9.grownBy W (some g) → SgRd W A4 m.segs := fun W hg => OwnSg.rd (World.ownsRow.kept P4 hg (.inr (fun hc => by have := l4 _ hc; omega)))
  have Q8 : ∀ W, w9.grownBy W (some g) → SgRd W A8 m.segs := fun W hg => OwnSg.rd (World.ownsRow.kept P8 hg (.inr (fun hc => by have := l8 _ hc; omega)))
  have KM2 := Lib.hid fun W (hg : w9.grownBy W (some g)) => KM.out A8 c8 A4 c4 W (Q8 W hg) (Q4 W hg)
  have HB6 : Hid (∀ W, w9.grownBy W (some g) → W.cell? ⟨g6, 5, none⟩ = some (.slice (some ⟨g, 0, none⟩) q c6)) := Lib.hid fun W hg => by rw [hq]; exact (BlkG b6 hg n6).cell 5
  have HQ := Lib.hid hq
  have hq6 : q ≤ 256 := by omega
  clear P4 P6 P8 Q4 Q8 hgb hX9 hq hcell l4 l6 l8
  go_wp2_with fail
  go_loopw [10, 48] (fun _ v wr => SwR w9 g q v wr) (fun _ v _ => q - (intOf v).toNat)
  case atStart => exact ⟨0, cur, rfl, by omega, hb, by omega, World.grownBy.refl _ _⟩
  case round =>
    obtain ⟨k, cs, rfl, hk, hbk, hsk, hgr⟩ := hrel
    have HG := Lib.hid hgr
    by_cases hlt : k < q
    · obtain ⟨x, hx⟩ : ∃ x, cs[k * 4]? = some x := ⟨_, Array.getElem?_eq_getElem (by omega)⟩
      have ek : wr.cell? ⟨g, k * 4, none⟩ = some x := (hbk.cell (k * 4)).trans hx
      have fk : wr.frozen? ⟨g, k * 4, none⟩ = false := hbk.frozen (k * 4)
      have e5 := HB6.out wr hgr
      have HB := Lib.hid hbk
      clear hbk hgr
      go_wp2_with fail
      go_roundw
      case rel => exact ⟨k + 1, _, by go_num, by omega, BlkS HB.out, by simpa using hsk, grown_set HG.out _⟩
      case measure => simp [intOf]; omega
    · obtain rfl : k = q := by omega
      have d4 := BlkG b4 hgr n4
      have d8 := BlkG b8 hgr n8
      clear hbk
      go_wp2_with (first
        | (with_reducible refine wpL_load_row rfl 24 (.tmp 8) rfl _ 24 _ 6 rfl d8 mf_wide (mf_size' _ _ _ _ _ _ _ _) ?_)
        | (with_reducible refine wpL_load_row rfl 24 (.tmp 4) rfl _ 24 _ 6 rfl d4 mf_wide (mf_size' _ _ _ _ _ _ _ _) ?_)
        | (go_at_call 13; (with_reducible refine (KM2.out _ HG.out).mono ?_); rintro e wa ⟨rfl, hxa⟩))
      go_ret
      exact ⟨rfl, (Ext.grown HX9.out HG.out (fun r hr => by cases hr; omega)).tr hxa⟩
end Go.Proofs.YtjomgppbialeoaaDoor
