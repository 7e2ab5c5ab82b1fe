/-
  The walk of BookDecodes.
-/
import Derived.Test.YtjajbbgebblalaaGreatDoorBkH
import Derived.Test.YtjajbbgebblalaaGreatDoorBkR
import Derived.Test.YtjajbbgebblalaaGreatDoorBkW
namespace Go.Proofs.YtjajbbgebblalaaGreatDoor
open Go.RowKit
set_option linter.unusedVariables false
set_option linter.unusedSimpArgs false
theorem bkD_sm (b : List UInt8) : SsSm (bkD b).2.2.1 := by
  by_cases h : bkD b = bkBad
  · rw [h]; intro s hs; cases hs
  · obtain ⟨num, seq, ss, h1, _, _, _, _, h2, _⟩ := bkD_inv h
    rw [h1]
    exact fun s hs => sm_of_valid (valid_iff.1 (book_mem h2 s hs).2.2)
theorem bkD_len (b : List UInt8) : (bkD b).2.2.1.length ≤ b.length := by
  by_cases h : bkD b = bkBad
  · rw [h]; exact Nat.zero_le _
  · obtain ⟨num, seq, ss, h1, _, _, _, _, h2, h3⟩ := bkD_inv h
    rw [h1]
    have h4 : ∀ fs : List Frm, fs.length ≤ (layF fs).length := fun fs => by
      induction fs with
      | nil => exact Nat.le_refl _
      | cons f r ih =>
        have e : layF (f :: r) = frB f ++ layF r := rfl
        rw [e, List.length_append, frB_len, List.length_cons]
        omega
    have h5 := h4 (bkF num seq ss)
    rw [← h3] at h5
    have h6 : (bkF num seq ss).length = ss.length + 2 := by simp [bkF]
    show ss.length ≤ _
    omega
def OvR (W : World) (lo hi g : Nat) (cs : Array Value) (n : Nat) (c70 : Value) (wr : World) : Prop := ∃ k : Nat, c70 = .int .i64 (k : Nat) ∧ k ≤ n ∧ ShB W lo hi g cs n wr
set_option maxRecDepth 100000 in
set_option maxHeartbeats 8000000 in
theorem bookDecodes_walk (A : Option Addr) (n c : Nat) (l : List UInt8) (w : World) (hN : Nib w) (hr : Rd w A n (u8s l)) (hnc : n ≤ c) (hn : n ≤ 1048576) :
    Calls Tryz.prog 5 #[.slice A n c] w fun e w' => e = .returned (.bool true) ∧ Ext w w' := by
  have hll : l.length = n := by have := hr.1; rw [u8s_len] at this; exact this
  have hmx : n ≤ maxLen := by unfold maxLen; omega
  have HR := Lib.hid hr
  have K0 := Lib.hid fun W (hx : Ext w W) => bhead_any W (hN.ext hx)
  have KC := Lib.hid fun W (h : Rd W A n (u8s l)) => copy_any A n c l W h (by omega)
  have KR := Lib.hid fun W (h : Rd W A n (u8s l)) => rbdec_any A n c l W h hnc hn
  have KD := Lib.hid fun A2 c2 W (hx : Ext w W) (h : Rd W A2 n (u8s l)) (hc : n ≤ c2) => bdec_any A2 n c2 l W (hN.ext hx) h hc (by omega)
  have KS := Lib.hid fun A2 c2 W (h : Rd W A2 n (u8s l)) (h2 : Rd W A n (u8s l)) => same_any A2 A n c2 n c l l W h h2 hmx
  rw [decide_eq_true rfl] at KS
  unfold NewB at KC
  rw [hll] at KC
  rw [bkR_eq] at KR
  unfold BdPost at KR KD
  have hsm := bkD_sm l
  have hsl := bkD_len l
  generalize bkD l = r at *
  obtain ⟨nu, sq, ss, E⟩ := r
  dsimp only at KR KD hsm hsl
  obtain ⟨m, hm⟩ : ∃ m, m = ss.length := ⟨_, rfl⟩
  rw [← hm] at KR KD hsl
  rw [hll] at hsl
  have KM := Lib.hid fun A1 B c1 c2 W (h : SsRd W A1 m ss) (h2 : SsRd W B m ss) => bsame_any ss A1 B m c1 c2 W h h2 (by omega) hsm
  have hEE : ∀ x : Int, (x != x) = false := fun x => by simp
  have hE1 := hEE E
  have hE2 := hEE nu
  have hE3 := hEE sq
  clear hN hr hll hnc hm hEE
  go_enter Tryz.func5, Tryz.ntmps5
  go_upto_region 5 with (first
    | (go_at_call 25; (with_reducible refine (K0.out _ (Ext.rfl' _)).mono ?_); rintro e w1 ⟨rfl, hx1⟩)
    | (go_at_call 31; (with_reducible refine (KC.out _ (HR.out.ext hx1)).mono ?_); rintro e w2 ⟨A2, c2, rfl, hx2, ho2⟩; have hw2 := hx1.tr hx2)
    | (go_at_call 32; (with_reducible refine (KR.out _ (HR.out.ext hw2)).mono ?_); rintro e w3 ⟨A4, c4, hs4, rfl, hm4, hx3, ho4⟩; have hw3 := hw2.tr hx3))
  have hcap : n ≤ c2 := own_leS ho2
  have r3 := (rd_own ho2).ext hx3
  go_upto_region 6 with (go_at_call 33; (with_reducible refine (KD.out _ _ _ hw3 r3 hcap).mono ?_); rintro e w5 ⟨A5, c5, hs5, rfl, hm5, hx5, ho5⟩; have hw5 := hw3.tr hx5; have r5 := r3.ext hx5)
  go_upto_region 7 with (go_at_call 33; (with_reducible refine (KD.out _ _ _ hw5 r5 hcap).mono ?_); rintro e w7 ⟨A7, c7, hs7, rfl, hm7, hx7, ho7⟩; have hw7 := hw5.tr hx7; have r7 := r5.ext hx7)
  have KM1 := Lib.hid (KM.out A5 A4 c5 c4 w7 (rd_ss (ho5.ext hx7) hm5) (rd_ss (ho4.ext (hx5.tr hx7)) hm4))
  have KS1 := Lib.hid fun W (hx : Ext w7 W) => KS.out A2 c2 W (r7.ext hx) (HR.out.ext (hw7.tr hx))
  go_upto_region 9 with (first
    | (go_at_call 30; (with_reducible refine (KM1.out).mono ?_); rintro e w8 ⟨rfl, hx8⟩)
    | (go_at_call 29; (with_reducible refine (KS1.out _ hx8).mono ?_); rintro e w9 ⟨rfl, hx9'⟩; have hx9 := hx8.tr hx9'))
  have hX9 := hw7.tr hx9
  have hz3 : w.heap.size ≤ w3.heap.size := hw3.size
  have hz5 : w3.heap.size ≤ w5.heap.size := hx5.size
  have hz7 : w5.heap.size ≤ w7.heap.size := hx7.size
  have hz9 : w7.heap.size ≤ w9.heap.size := hx9.size
  have KF : Hid (∀ W, (∀ i, i < w3.heap.size ∨ w5.heap.size ≤ i → W.heap[i]? = w9.heap[i]?) → Calls Tryz.prog 30 #[.slice A7 m c7, .slice A4 m c4] W fun e w' => e = .returned (.bool true) ∧ Ext W w') := Lib.hid fun W hW =>
    KM.out A7 A4 c7 c4 W (rd_ss (OwnSs.to (ho7.ext hx9) (fun i h1 _ => hW i (.inr h1))) hm7) (rd_ss (OwnSs.to ho4 (fun i _ h2 => (hW i (.inl h2)).trans ((hx5.tr (hx7.tr hx9)).block i h2))) hm4)
  have HX79 := Lib.hid (hx7.tr hx9)
  clear hx1 hx2 hw2 hx3 hw3 hw5 hx8 hx9' r3 r5 r7 KM1 KS1 KM KS K0 KC KR KD ho2 ho4 ho7 hcap hw7
  by_cases hn0 : m = 0
  · subst hn0
    go_wp2_with fail
    go_loopw [16, 70] (fun _ c70 wr => c70 = .int .i64 0 ∧ wr = w9) (fun _ _ _ => 0)
    case atStart => exact ⟨rfl, rfl⟩
    case round =>
      obtain ⟨rfl, rfl⟩ := hrel
      go_wp2_with (go_at_call 30; (with_reducible refine (KF.out _ (fun _ _ => rfl)).mono ?_); rintro e wa ⟨rfl, hxa⟩)
      go_ret
      exact ⟨rfl, hX9.tr hxa⟩
  obtain ⟨g, cs, rfl, hgb, hb5, hsz, hln⟩ := ho5.form (by omega)
  have hgh := hb5.lt
  have hb := BlkE hb5 HX79.out
  have HX9 := Lib.hid hX9
  have hl5 := ho5.len
  have HL : Hid (∀ k, k < m → ∃ Al nl cl, cs[k * 12 + 5]? = some (.slice Al nl cl) ∧ nl ≤ 4398046510976 ∧ ∀ j, j < nl → ∃ gl c2, Al = some ⟨gl, 0, none⟩ ∧ w3.heap.size ≤ gl ∧ gl < w5.heap.size ∧ gl ≠ g ∧ Blk w9 gl 79 c2 ∧ nl * 4 ≤ c2.size) := Lib.hid fun k hk => by
    obtain ⟨x, hx⟩ : ∃ x, hs5[k]? = some x := ⟨_, List.getElem?_eq_getElem (by omega)⟩
    have hmem := List.mem_of_getElem? hx
    refine ⟨x.2.1, x.1.lines.length, x.2.2, hln k x hx, (hsm x.1 (by rw [← hm5]; exact List.mem_map.2 ⟨x, hmem, rfl⟩)).1, fun j hj => ?_⟩
    obtain ⟨gl, c2, h1, h2, h3, h4, h5⟩ := ols_form (ho5.2 x hmem) (by omega)
    exact ⟨gl, c2, h1, h2, h3, fun e => by
      have q1 : w5.heap[gl]? = some (.cells c2 79 (0, 0)) := h4
      have q2 : w5.heap[g]? = some (.cells cs 77 (0, 0)) := hb5
      rw [e, q2] at q1
      simp at q1, BlkE h4 HX79.out, h5⟩
  have hm20 : m ≤ 1048576 := by omega
  clear ho5 hm5 hs5 hl5 hb5 hln hsm hX9 HX79
  go_wp2_with fail
  go_loopw [16, 70] (fun _ c70 wr => OvR w9 w3.heap.size w5.heap.size g cs m c70 wr) (fun _ c70 _ => m - (intOf c70).toNat)
  case atStart => exact ⟨0, rfl, Nat.zero_le _, ShB.refl hb⟩
  case round =>
    obtain ⟨k, rfl, hk, hsh⟩ := hrel
    by_cases hlt : k < m
    · obtain ⟨Al, nl, cl, hcl, hnl, hal⟩ := HL.out k hlt
      have Hsh := Lib.hid hsh
      have HAl := Lib.hid hal
      obtain ⟨-, -, -, cs', d1, d2, d3⟩ := hsh
      have f5 : wr.cell? ⟨g, k * 12 + 5, none⟩ = some (.slice Al nl cl) := (d1.cell _).trans ((d3 k hlt).trans hcl)
      clear d1 d2 d3 hal
      go_wp2_with fail
      go_loopw [17, 79] (fun _ c79 wi => OvR w9 w3.heap.size w5.heap.size g cs m (.int .i64 0) wi ∧ ∃ j : Nat, c79 = .int .i64 (j : Nat) ∧ j ≤ nl) (fun _ c79 _ => nl - (intOf c79).toNat)
      case atStart => exact ⟨⟨0, rfl, Nat.zero_le _, Hsh.out⟩, 0, rfl, Nat.zero_le _⟩
      case round =>
        obtain ⟨⟨_, _, _, hsi⟩, j, rfl, hj⟩ := hrel
        have Hsi := Lib.hid hsi
        obtain ⟨-, -, e3, cs2, d1, d2, d3⟩ := hsi
        have g5 : wr.cell? ⟨g, k * 12 + 5, none⟩ = some (.slice Al nl cl) := (d1.cell _).trans ((d3 k hlt).trans hcl)
        by_cases hjl : j < nl
        · obtain ⟨gl, c2, rfl, hg1, hg2, hg3, hbl, hcs⟩ := HAl.out j hjl
          obtain ⟨c3, hb3, hs3⟩ := e3 gl _ _ hg3 hbl
          obtain ⟨u, hu⟩ : ∃ u, c3[j * 4]? = some u := ⟨_, Array.getElem?_eq_getElem (by omega)⟩
          have fu : wr.cell? ⟨gl, j * 4, none⟩ = some u := (hb3.cell _).trans hu
          have fz : wr.frozen? ⟨gl, j * 4, none⟩ = false := hb3.frozen _
          clear d1 d2 d3 e3 hbl hb3 hcs hs3 hu
          go_wp2_with fail
          go_roundw
          case rel => exact ⟨⟨0, rfl, Nat.zero_le _, ShB.line Hsi.out hg1 hg2 hg3⟩, j + 1, by go_num, hjl⟩
          case measure => simp [intOf]; omega
        · obtain rfl : j = nl := by omega
          obtain ⟨u, hu⟩ : ∃ u, cs2[k * 12]? = some u := ⟨_, Array.getElem?_eq_getElem (by omega)⟩
          have fu : wr.cell? ⟨g, k * 12, none⟩ = some u := (d1.cell _).trans hu
          have fz : wr.frozen? ⟨g, k * 12, none⟩ = false := d1.frozen _
          clear d1 d2 d3 e3 hu
          go_wp2_with fail
          go_roundw
          case rel => exact ⟨k + 1, by go_num, hlt, ShB.order Hsi.out hgb hgh⟩
          case measure => simp [intOf]; omega
    · obtain rfl : k = m := by omega
      have Hsh := Lib.hid hsh
      clear hsh
      go_wp2_with (go_at_call 30; go_loud (refine (KF.out _ (fun i hi => Hsh.out.2.1 i hi)).mono ?_; rintro e wa ⟨rfl, hxa⟩))
      go_ret
      exact ⟨rfl, (ShB.ext Hsh.out HX9.out hz3).tr hxa⟩
end Go.Proofs.YtjajbbgebblalaaGreatDoor
