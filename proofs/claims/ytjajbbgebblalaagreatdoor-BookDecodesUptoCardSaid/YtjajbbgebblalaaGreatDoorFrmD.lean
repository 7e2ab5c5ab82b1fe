/-
  The walks of frame.Peek, frame.Decode, frame.Whole.
-/
/-
  The walks of the reference's frames: Peek, Decode.
-/
import Derived.Test.YtjajbbgebblalaaGreatDoorShrT
import Derived.Test.YtjajbbgebblalaaGreatDoorCrcW
import Derived.Test.YtjajbbgebblalaaGreatDoorCrcP
import Derived.Test.YtjajbbgebblalaaGreatDoorHand
import Derived.Test.YtjajbbgebblalaaGreatDoorOwn
namespace Go.Proofs.YtjajbbgebblalaaGreatDoor
open Go.RowKit
set_option linter.unusedVariables false
set_option linter.unusedSimpArgs false
def PkT (r : Nat × Nat × Nat × Nat) : Ending := .returned (.tuple #[.int .i64 (r.1 : Nat), .int .i64 (r.2.1 : Nat), .int .i64 (r.2.2.1 : Nat), .int .i64 (r.2.2.2 : Nat)])
theorem closed16 {l : List UInt8} (h : 16 ≤ l.length) : closedB (l.take 16) = decide ((l.drop 12).take 4 = four (csum (l.take 12))) := by
  have e : (l.take 16).length = 16 := by rw [List.length_take]; omega
  unfold closedB
  rw [e, decide_eq_true (by decide), Bool.true_and]
  have h1 : (l.take 16).drop 12 = (l.drop 12).take 4 := by rw [List.drop_take]
  have h2 : (l.take 16).take 12 = l.take 12 := by rw [List.take_take]; rfl
  show decide ((l.take 16).drop 12 = four (csum ((l.take 16).take 12))) = _
  rw [h1, h2]
set_option maxHeartbeats 1000000 in
theorem fsize_any (n : Nat) (w : World) (h : n ≤ 16384) : Calls Tryz.prog 167 #[.int .i64 (n : Nat)] w fun e w' => e = .returned (.int .i64 (20 + n : Nat)) ∧ Ext w w' := by
  go_enter Tryz.func167, Tryz.ntmps167
  have t1 : decide ((n : Int) < 0) = false := by simp
  have t2 : decide ((16384 : Int) < (n : Int)) = false := by simp; omega
  go_wp2_with fail
  go_ret
  refine ⟨?_, exA⟩
  show Ending.returned (.int .i64 (16 + (n : Int) + 4)) = _
  congr 2
  omega
theorem wraps_i64 (n : Int) (h₀ : 0 ≤ n) (h₁ : n < 2 ^ 63) : IntKind.i64.wrap n = n := by rw [IntKind.wrap_i64]; omega
theorem or_i64 (x y : Nat) (hx : x ≤ 255) (hy : y ≤ 255) : bits .or .i64 (x : Int) ((y : Int) * 256) = ((x + 256 * y : Nat) : Int) := by
  rw [bits_join_low .i64 63 (by decide) wraps_i64 8 (x : Int) _ (by omega) (by omega) (by omega) (by omega) (by omega) (by omega)]
  omega
theorem un8_snoc (a : List UInt8) (x : UInt8) : un8 (a ++ [x]) = un8 a + x.toNat * 256 ^ a.length := by
  induction a with
  | nil => simp [un8]
  | cons y r ih =>
    rw [List.cons_append]
    unfold un8
    rw [ih, List.length_cons, Nat.pow_succ]
    rw [Nat.mul_add, Nat.add_assoc]
    congr 2
    rw [Nat.mul_comm (256 ^ r.length) 256, Nat.mul_left_comm]
theorem fs_step {l : List UInt8} {i : Nat} (hl : 16 ≤ l.length) (hi : i < 8) : un8 ((l.drop 4).take (i + 1)) = un8 ((l.drop 4).take i) + (l.getD (4 + i) 0).toNat * 256 ^ i := by
  have h : i < (l.drop 4).length := by rw [List.length_drop]; omega
  rw [List.take_succ_eq_append_getElem h, un8_snoc, List.length_take, Nat.min_eq_left (by omega)]
  congr 2
  rw [List.getElem_drop, List.getD_eq_getElem?_getD, List.getElem?_eq_getElem (by rw [List.length_drop] at h; omega)]
  rfl
theorem fs_bd (l : List UInt8) (i : Nat) : un8 ((l.drop 4).take i) < 256 ^ i := by
  have h := un8_pow ((l.drop 4).take i)
  have h2 : ((l.drop 4).take i).length ≤ i := List.length_take_le _ _
  exact Nat.lt_of_lt_of_le h (Nat.pow_le_pow_right (by decide) h2)
theorem pow_28 (k : Nat) : (2 : Int) ^ (8 * k) = ((256 ^ k : Nat) : Int) := by
  rw [Int.pow_mul]
  simp
theorem or_step8 (k acc z : Nat) (hk : k ≤ 7) (hacc : acc < 256 ^ k) (hz : z ≤ 255) :
    bits BinOp.or IntKind.u64 (acc : Int) (IntKind.u64.wrap ((z : Int) * 2 ^ (8 * k))) = ((acc + z * 256 ^ k : Nat) : Int) := by
  have hp : (256 : Nat) ^ k ≤ 256 ^ 7 := Nat.pow_le_pow_right (by omega) hk
  have h1 : z * 256 ^ k < 18446744073709551616 := by
    have : z * 256 ^ k ≤ 255 * 72057594037927936 := Nat.mul_le_mul hz hp
    omega
  have h2 : (z : Int) * 2 ^ (8 * k) = ((z * 256 ^ k : Nat) : Int) := by rw [pow_28, Int.natCast_mul]
  have h3 : IntKind.u64.wrap (((z * 256 ^ k : Nat) : Int)) = ((z * 256 ^ k : Nat) : Int) := by
    rw [IntKind.wrap_u64]
    exact Int.emod_eq_of_lt (Int.natCast_nonneg _) (by omega)
  rw [h2, h3, bits_join_low .u64 64 (by decide) wraps_u64 (8 * k) (acc : Int) _ (Int.natCast_nonneg _) ?_ (by omega) (Int.natCast_nonneg _) ?_ ?_]
  · rw [Int.natCast_add]
  · rw [pow_28]; exact Int.ofNat_lt.2 hacc
  · rw [pow_28, Int.natCast_mul]; exact Int.mul_emod_left _ _
  · omega
def PkR (w : World) (l : List UInt8) (c7 c34 : Value) (wr : World) : Prop := ∃ i : Nat, c34 = .int .i64 (i : Nat) ∧ i ≤ 8 ∧ c7 = .int .u64 (un8 ((l.drop 4).take i) : Nat) ∧ Ext w wr
set_option maxRecDepth 100000 in
set_option maxHeartbeats 4000000 in
theorem peek_any (A : Option Addr) (n c : Nat) (l : List UInt8) (w : World) (hN : Nib w) (hr : Rd w A n (u8s l)) (hnc : n ≤ c) (hn : n ≤ maxLen) :
    Calls Tryz.prog 168 #[.slice A n c] w fun e w' => e = PkT (fpeek l) ∧ Ext w w' := by
  have hlen : l.length = n := by have := hr.1; rw [u8s_len] at this; exact this
  by_cases h16 : n < 16
  · have hf : Hid (fpeek l = (0, 0, 0, 60)) := Lib.hid (by unfold fpeek; rw [if_pos (by omega)])
    have t1 : decide ((n : Int) < 16) = true := by simp; omega
    clear hlen
    go_enter Tryz.func168, Tryz.ntmps168
    go_wp2_with fail
    ((try simp only [Exit.inBlock, Exit.then]); refine bodyPost_ret (results_tmp4 rfl _ _ _) rfl ?_)
    exact ⟨by rw [hf.out]; rfl, exA⟩
  by_cases h0 : l.getD 0 0 = 165
  case neg =>
    have hf : Hid (fpeek l = (0, 0, 0, 61)) := Lib.hid (by unfold fpeek; rw [if_neg (by omega), if_pos h0])
    have t1 : decide ((n : Int) < 16) = false := by simp; omega
    obtain ⟨b, o, rfl, e0⟩ := at_u8 hr (show 0 < n by omega)
    have t2 : (((l.getD 0 0).toNat : Int) == 165) = false := by
      simp only [beq_eq_false_iff_ne, ne_eq]
      intro h
      exact h0 (UInt8.toNat_inj.1 (by have : (165 : UInt8).toNat = 165 := rfl; omega))
    generalize (l.getD 0 0).toNat = x at *
    rw [Nat.add_zero] at e0
    clear hlen h0
    go_enter Tryz.func168, Tryz.ntmps168
    go_wp2_with fail
    ((try simp only [Exit.inBlock, Exit.then]); refine bodyPost_ret (results_tmp4 rfl _ _ _) rfl ?_)
    exact ⟨by rw [hf.out]; rfl, exA⟩
  have hl16 : 16 ≤ l.length := by omega
  obtain ⟨A1, hs1, hr1⟩ := slice_hi A n c 16 (by omega) hnc
  have hs1' : ∀ W : World, (Instr.slice 36 (.slice A n c) none (some (.int .i64 16)) none).run Tryz.prog W = .ok (.slice A1 16 c) W := fun W => hs1 W
  have KC := Lib.hid (closed_any A1 16 c (l.take 16) w hN (hr1 w l hr) (by omega) (by decide))
  rw [closed16 hl16] at KC
  have t1 : decide ((n : Int) < 16) = false := by simp; omega
  obtain ⟨b, o, rfl, e0⟩ := at_u8 hr (show 0 < n by omega)
  rw [h0, Nat.add_zero] at e0
  by_cases hc : (l.drop 12).take 4 = four (csum (l.take 12))
  case neg =>
    have hf : Hid (fpeek l = (0, 0, 0, 62)) := Lib.hid (by unfold fpeek; rw [if_neg (by omega), if_neg (fun h => h h0), if_pos hc])
    rw [decide_eq_false hc] at KC
    clear hlen h0 hc hs1 hr hr1 hl16
    go_enter Tryz.func168, Tryz.ntmps168
    go_wp2_with (go_at_call 169; (with_reducible refine (KC.out).mono ?_); rintro e w1 ⟨rfl, hx1⟩)
    ((try simp only [Exit.inBlock, Exit.then]); refine bodyPost_ret (results_tmp4 rfl _ _ _) rfl ?_)
    exact ⟨by rw [hf.out]; rfl, exA⟩
  rw [decide_eq_true hc] at KC
  have hf1 : Hid (fpeek l = if fk l < 1 ∨ 7 < fk l ∨ 16384 < fn l ∨ 1099511627776 < fs8 l then (0, 0, 0, 63) else (fk l, fs8 l, 20 + fn l, 0)) := Lib.hid (by unfold fpeek; rw [if_neg (by omega), if_neg (fun h => h h0), if_neg (fun h => h hc)])
  obtain ⟨_, _, hA1, e1⟩ := at_u8 hr (show 1 < n by omega)
  injection hA1 with hA1
  injection hA1 with hb ho
  subst hb ho
  obtain ⟨_, _, hA1, e2⟩ := at_u8 hr (show 2 < n by omega)
  injection hA1 with hA1
  injection hA1 with hb ho
  subst hb ho
  obtain ⟨_, _, hA1, e3⟩ := at_u8 hr (show 3 < n by omega)
  injection hA1 with hA1
  injection hA1 with hb ho
  subst hb ho
  have HR := Lib.hid hr
  obtain ⟨x1, hx1⟩ : ∃ x, x = (l.getD 1 0).toNat := ⟨_, rfl⟩
  obtain ⟨x2, hx2⟩ : ∃ x, x = (l.getD 2 0).toNat := ⟨_, rfl⟩
  obtain ⟨x3, hx3⟩ : ∃ x, x = (l.getD 3 0).toNat := ⟨_, rfl⟩
  have b1 : x1 ≤ 255 := by have := (l.getD 1 0).toNat_lt; omega
  have b2 : x2 ≤ 255 := by have := (l.getD 2 0).toNat_lt; omega
  have b3 : x3 ≤ 255 := by have := (l.getD 3 0).toNat_lt; omega
  have hk0 : Hid (fk l = x1) := Lib.hid (by unfold fk; rw [hx1])
  have hn0 : Hid (fn l = x2 + 256 * x3) := Lib.hid (by unfold fn; rw [hx2, hx3])
  rw [← hx1] at e1
  rw [← hx2] at e2
  rw [← hx3] at e3
  have Hlen := Lib.hid hlen
  clear hlen h0 hc hs1 hr hr1 hl16 hx1 hx2 hx3
  have hor := or_i64 x2 x3 b2 b3
  obtain ⟨N, hN0⟩ : ∃ N, N = x2 + 256 * x3 := ⟨_, rfl⟩
  rw [← hN0] at hn0 hor
  have hNb : N ≤ 65535 := by omega
  have HOr := Lib.hid hor
  clear hor hN0
  go_enter Tryz.func168, Tryz.ntmps168
  go_wp2_with (go_at_call 169; (with_reducible refine (KC.out).mono ?_); rintro e w1 ⟨rfl, hx1⟩; have f1 := hx1.cell e1; have f2 := hx1.cell e2; have f3 := hx1.cell e3)
  go_quiet (fail)
  have hX1 : Ext w (w1.drewN nq) := ExtDN hx1
  have hor := HOr.out
  simp only [hor]
  clear hor
  go_wp2_with fail
  go_loopw [7, 8, 34] (fun c7 _ c34 wr => PkR w l c7 c34 wr) (fun _ _ c34 _ => 8 - (intOf c34).toNat)
  case atStart => exact ⟨0, rfl, by omega, rfl, hX1⟩
  case round =>
    obtain ⟨i, rfl, hi, rfl, hx⟩ := hrel
    have HX := Lib.hid hx
    by_cases hlt : i < 8
    · have hst := fs_step (l := l) (i := i) (by have := Hlen.out; omega) hlt
      have hbd := fs_bd l i
      obtain ⟨_, _, hA1, ei⟩ := at_u8 HR.out (show 4 + i < n by omega)
      injection hA1 with hA1
      injection hA1 with hb ho
      subst hb ho
      have ei2 : wr.cell? ⟨b, o + (4 + i), none⟩ = some (.int .u8 ((l.getD (4 + i) 0).toNat : Nat)) := hx.cell ei
      obtain ⟨z, hz⟩ : ∃ z, z = (l.getD (4 + i) 0).toNat := ⟨_, rfl⟩
      have hzb : z ≤ 255 := by have := (l.getD (4 + i) 0).toNat_lt; omega
      rw [← hz] at ei2 hst
      have hor8 := or_step8 i (un8 ((l.drop 4).take i)) z (by omega) hbd hzb
      rw [← hst] at hor8
      obtain ⟨acc2, hacc2⟩ : ∃ a, a = un8 ((l.drop 4).take (i + 1)) := ⟨_, rfl⟩
      rw [← hacc2] at hor8
      have HS2 := Lib.hid hacc2
      clear hst hbd ei hz hacc2
      generalize un8 ((l.drop 4).take i) = acc at *
      go_wp2_with fail
      go_roundw
      case rel => exact ⟨i + 1, by go_num, by omega, by rw [HS2.out], hx⟩
      case measure => simp [intOf]; omega
    · obtain rfl : i = 8 := by omega
      have hS0 : Hid (fs8 l = un8 ((l.drop 4).take 8)) := Lib.hid rfl
      have hSb := fs_bd l 8
      generalize un8 ((l.drop 4).take 8) = S at *
      have g1 : wr.cell? ⟨b, o + 1, none⟩ = some (.int .u8 (x1 : Nat)) := hx.cell e1
      have KZ := Lib.hid fun (n : Nat) (h : n ≤ 16384) => fsize_any n wr h
      have HE : Hid (PkT (fpeek l) = PkT (if x1 < 1 ∨ 7 < x1 ∨ 16384 < N ∨ 1099511627776 < S then (0, 0, 0, 63) else (x1, S, 20 + N, 0))) := Lib.hid (by rw [hf1.out, hk0.out, hn0.out, hS0.out])
      clear hX1
      have q0 : decide ((8 : Int) < 8) = false := by decide
      by_cases c1 : x1 = 0
      · subst c1
        go_wp2_with fail
        ((try simp only [Exit.inBlock, Exit.then]); refine bodyPost_ret (results_tmp4 rfl _ _ _) rfl ?_)
        exact ⟨by rw [HE.out, if_pos (by omega)]; rfl, exA⟩
      have u1 : ((x1 : Int) == 0) = false := by simp; omega
      by_cases c2 : 7 < x1
      · have u2 : decide ((7 : Int) < (x1 : Int)) = true := by simp; omega
        go_wp2_with fail
        ((try simp only [Exit.inBlock, Exit.then]); refine bodyPost_ret (results_tmp4 rfl _ _ _) rfl ?_)
        exact ⟨by rw [HE.out, if_pos (by omega)]; rfl, exA⟩
      have u2 : decide ((7 : Int) < (x1 : Int)) = false := by simp; omega
      by_cases c3 : 16384 < N
      · have u3 : decide ((16384 : Int) < (N : Int)) = true := by simp; omega
        go_wp2_with fail
        ((try simp only [Exit.inBlock, Exit.then]); refine bodyPost_ret (results_tmp4 rfl _ _ _) rfl ?_)
        exact ⟨by rw [HE.out, if_pos (by omega)]; rfl, exA⟩
      have u3 : decide ((16384 : Int) < (N : Int)) = false := by simp; omega
      by_cases c4 : 1099511627776 < S
      · have u4 : decide ((1099511627776 : Int) < (S : Int)) = true := by simp; omega
        go_wp2_with fail
        ((try simp only [Exit.inBlock, Exit.then]); refine bodyPost_ret (results_tmp4 rfl _ _ _) rfl ?_)
        exact ⟨by rw [HE.out, if_pos (by omega)]; rfl, exA⟩
      have u4 : decide ((1099511627776 : Int) < (S : Int)) = false := by simp; omega
      have hw : IntKind.i64.wrap (S : Int) = (S : Int) := wraps_i64 _ (by omega) (by omega)
      have KZ2 := Lib.hid (KZ.out N (by omega))
      go_wp2_with (go_at_call 167; (with_reducible refine (KZ2.out).mono ?_); rintro e w5 ⟨rfl, hx5⟩)
      ((try simp only [Exit.inBlock, Exit.then]); refine bodyPost_ret (results_tmp4 rfl _ _ _) rfl ?_)
      exact ⟨by rw [HE.out, if_neg (by omega)]; rfl, exA⟩
theorem fr_wide : Wide Tryz.prog 119 3 := ⟨⟨_, Tryz.underlying119, rfl⟩, by kernel_rfl⟩
def frcells (k s : Nat) (A : Option Addr) (n c : Nat) : Array Value := #[.int .i64 (k : Nat), .int .i64 (s : Nat), .slice A n c]
theorem res_row_tt {P : Program} {w : World} {fn : Func} {p u x : Tmp} {ty : TypeId} (h : fn.results = #[.cell p ty, .tmp u, .tmp x]) (tmps : Array Value) (g : Nat) (t : TypeId) (cs : Array Value) (n : Nat) (vu vx : Value)
    (hp : tmps.getD p undef = .pointer (some ⟨g, 0, none⟩)) (hu : tmps.getD u undef = vu) (hx : tmps.getD x undef = vx) (hb : Blk w g t cs) (hw : Wide P ty n) (hn : cs.size = n) : (results fn tmps).run P w = .ok (.tuple #[.agg cs, vu, vx]) w := by
  have hp' : tmps[p]?.getD undef = .pointer (some ⟨g, 0, none⟩) := by simpa using hp
  have hu' : tmps[u]?.getD undef = vu := by simpa using hu
  have hx' : tmps[x]?.getD undef = vx := by simpa using hx
  simp [results, h, hp', hu', hx', asAddr, run_loadVar_blk hb hw hn]
/-- What Decode answers, in memory. -/
def DcPost (w : World) (r : (Nat × Nat × List UInt8) × Nat × Nat) (e : Ending) (w' : World) : Prop :=
  ∃ A c, e = .returned (.tuple #[.agg (frcells r.1.1 r.1.2.1 A r.1.2.2.length c), .int .i64 (r.2.1 : Nat), .int .i64 (r.2.2 : Nat)]) ∧ Ext w w' ∧ w'.ownsRow w.heap.size 5 1 (.slice A r.1.2.2.length c) r.1.2.2.length (u8s r.1.2.2) ∧ r.1.2.2.length ≤ c
theorem dc_bad {w w' : World} {r : (Nat × Nat × List UInt8) × Nat × Nat} {e : Ending} {k : Nat} (h : r = ((0, 0, []), 0, k)) (he : e = .returned (.tuple #[.agg (frcells 0 0 none 0 0), .int .i64 0, .int .i64 (k : Nat)])) (hx : Ext w w') : DcPost w r e w' := by
  subst h
  exact ⟨none, 0, he, hx, World.ownsRow_nil _ _ _ _, Nat.le_refl _⟩
theorem closed_rest {l : List UInt8} {N : Nat} (h : 20 + N ≤ l.length) : closedB ((l.drop 16).take (4 + N)) = decide ((l.drop (16 + N)).take 4 = four (csum ((l.drop 16).take N))) := by
  have e : ((l.drop 16).take (4 + N)).length = 4 + N := by rw [List.length_take, List.length_drop]; omega
  unfold closedB
  rw [e, decide_eq_true (by omega), Bool.true_and, show 4 + N - 4 = N by omega, List.drop_take, List.drop_drop, List.take_take, Nat.min_eq_left (by omega), show 4 + N - N = 4 by omega]
theorem own_capB {w : World} {base n c s : Nat} {e : TypeId} {A : Option Addr} {xs : List Value} (h : w.ownsRow base e s (.slice A n c) n xs) : n ≤ c := by
  rcases h.2 with ⟨h1, h2⟩ | ⟨g, cap, cur, h1, h2, h3, h4, h5⟩
  · omega
  · injection h1 with h6 h7 h8
    omega
theorem own_row_apart {w : World} {base n c s g : Nat} {e t : TypeId} {A : Option Addr} {xs : List Value} {cs ds : Array Value} (h : w.ownsRow base e s (.slice A n c) n xs) (hb : Blk w g t cs) (ht : t ≠ e := by decide) : (w.setRow g ds).ownsRow base e s (.slice A n c) n xs := by
  refine own_heap h fun k hk => ?_
  simp only [World.setRow, Array.getElem?_modify]
  rw [if_neg]
  intro hc
  subst hc
  rcases h.2 with ⟨hv, _⟩ | ⟨g2, cap, cur, hv, _, hg2, _⟩
  · rw [hv] at hk; cases hk
  · rw [hv] at hk
    simp only [Value.ownBlock, Option.some.injEq] at hk
    subst hk
    unfold Blk at hb
    rw [hb] at hg2
    simp at hg2
    exact ht hg2.2
theorem three_size {a b c : Value} : (#[a, b, c] : Array Value).size = 3 := rfl
theorem three_one {a b c : Value} (ha : a.oneCell' = true) (hb : b.oneCell' = true) (hc : c.oneCell' = true) : ∀ v ∈ (#[a, b, c] : Array Value).toList, v.oneCell' = true := by
  intro v hv
  simp at hv
  rcases hv with rfl | rfl | rfl <;> assumption
theorem peek_bad {l : List UInt8} (h : (fpeek l).2.2.2 ≠ 0) : fpeek l = (0, 0, 0, (fpeek l).2.2.2) := by
  unfold fpeek at h ⊢
  split
  · rfl
  split
  · rfl
  split
  · rfl
  split
  · rfl
  · rename_i h1 h2 h3 h4
    rw [if_neg h1, if_neg h2, if_neg h3, if_neg h4] at h
    exact absurd rfl h
set_option maxRecDepth 100000 in
set_option maxHeartbeats 4000000 in
theorem fdec_any (A : Option Addr) (n c : Nat) (l : List UInt8) (w : World) (hN : Nib w) (hr : Rd w A n (u8s l)) (hnc : n ≤ c) (hn : n ≤ maxLen) :
    Calls Tryz.prog 130 #[.slice A n c] w (DcPost w (fdec l)) := by
  have hlen : l.length = n := by have := hr.1; rw [u8s_len] at this; exact this
  have KP := Lib.hid fun W (hx : Ext w W) => peek_any A n c l W (hN.ext hx) (hr.ext hx) hnc hn
  by_cases he : (fpeek l).2.2.2 = 0
  case neg =>
    have hp := peek_bad he
    have hd : Hid (fdec l = ((0, 0, []), 0, (fpeek l).2.2.2)) := Lib.hid (by unfold fdec; rw [if_pos he])
    have KP2 : Hid (∀ W, Ext w W → Calls Tryz.prog 168 #[.slice A n c] W fun e w' => e = PkT (0, 0, 0, (fpeek l).2.2.2) ∧ Ext W w') := Lib.hid fun W hx => by
      have := KP.out W hx
      rw [hp] at this
      exact this
    have u1 : (((fpeek l).2.2.2 : Int) == 0) = false := by simp; omega
    unfold PkT at KP2
    dsimp only at KP2
    generalize (fpeek l).2.2.2 = E at *
    clear hlen hr hp he KP
    go_enter Tryz.func130, Tryz.ntmps130
    go_wp2_with (first | (with_reducible refine wpL_store_row rfl 119 (.tmp 2) (.tmp 19) rfl _ 119 _ _ rfl rfl b2 (three_size.trans three_size.symm) (three_one rfl rfl rfl) 3 fr_wide three_size ?_) | go_at_call 168; (with_reducible refine (KP2.out _ exA).mono ?_); rintro e w1 ⟨rfl, hx1⟩; have b2 : Blk w1 w.heap.size 119 #[.int .i64 0, .int .i64 0, .slice none 0 0] := BlkE (BlkN rfl) hx1)
    (try simp only [Exit.inBlock, Exit.then]); refine bodyPost_ret (v := .tuple #[.agg (frcells 0 0 none 0 0), .int .i64 0, .int .i64 (E : Nat)]) (res_row_tt rfl _ w.heap.size 119 _ 3 _ _ rfl rfl rfl ?_ fr_wide rfl) rfl ?_
    · exact Blk.setRow_ b2
    · exact dc_bad hd.out rfl exA
  obtain ⟨p1, p2, p3, p4, p5, p6, p7, p8⟩ := fpeek_ok he
  have hd0 : fdec l = if l.length < 20 + fn l then ((0, 0, []), 0, 60) else if (l.drop (16 + fn l)).take 4 ≠ four (csum ((l.drop 16).take (fn l))) then ((0, 0, []), 0, 62) else ((fk l, fs8 l, (l.drop 16).take (fn l)), 20 + fn l, 0) := by
    unfold fdec
    rw [if_neg (by simp [he]), p8]
  rw [p8] at KP
  unfold PkT at KP
  dsimp only at KP
  obtain ⟨N, hN0⟩ : ∃ N, N = fn l := ⟨_, rfl⟩
  rw [← hN0] at hd0 KP p6
  generalize fk l = k at *
  generalize fs8 l = s at *
  obtain ⟨SZ, hSZ⟩ : ∃ SZ, SZ = 20 + N := ⟨_, rfl⟩
  rw [← hSZ] at hd0 KP
  clear p1 p2 p3 p8 he hN0
  by_cases hs : n < SZ
  · rw [hlen, if_pos hs] at hd0
    have hd := Lib.hid hd0
    have u1 : decide (n < SZ) = true := by simpa using hs
    clear hd0 hlen hr hSZ
    go_enter Tryz.func130, Tryz.ntmps130
    go_wp2_with (first | (with_reducible refine wpL_store_row rfl 119 (.tmp 2) (.tmp 25) rfl _ 119 _ _ rfl rfl b2 (three_size.trans three_size.symm) (three_one rfl rfl rfl) 3 fr_wide three_size ?_) | go_at_call 168; (with_reducible refine (KP.out _ exA).mono ?_); rintro e w1 ⟨rfl, hx1⟩; have b2 : Blk w1 w.heap.size 119 #[.int .i64 0, .int .i64 0, .slice none 0 0] := BlkE (BlkN rfl) hx1)
    (try simp only [Exit.inBlock, Exit.then]); refine bodyPost_ret (v := .tuple #[.agg (frcells 0 0 none 0 0), .int .i64 0, .int .i64 60]) (res_row_tt rfl _ w.heap.size 119 _ 3 _ _ rfl rfl rfl ?_ fr_wide rfl) rfl ?_
    · exact Blk.setRow_ b2
    · exact dc_bad hd.out rfl exA
  have u1 : decide (n < SZ) = false := by simpa using hs
  rw [hlen, if_neg hs] at hd0
  obtain ⟨M, hM⟩ : ∃ M, M = 4 + N := ⟨_, rfl⟩
  obtain ⟨A1, hs1, hr1⟩ := slice_lhh A n c 16 SZ (by omega) (by omega) hnc
  rw [show SZ - 16 = M by omega] at hs1 hr1
  have hs1' : ∀ W : World, (Instr.slice 36 (.slice A n c) (some (.int .i64 16)) (some (.int .i64 (SZ : Nat))) (some (.int .i64 (SZ : Nat)))).run Tryz.prog W = .ok (.slice A1 M M) W := fun W => hs1 W
  have KC := Lib.hid fun W (hx : Ext w W) => closed_any A1 M M ((l.drop 16).take M) W (hN.ext hx) (hr1 W l (hr.ext hx)) (Nat.le_refl _) (by unfold maxLen; omega)
  have hcr := closed_rest (l := l) (N := N) (by omega)
  rw [← hM] at hcr
  rw [hcr] at KC
  by_cases hc : (l.drop (16 + N)).take 4 = four (csum ((l.drop 16).take N))
  case neg =>
    rw [decide_eq_false hc] at KC
    rw [if_pos hc] at hd0
    have hd := Lib.hid hd0
    clear hd0 hlen hr hSZ hM hs1 hr1 hcr hc hN
    go_enter Tryz.func130, Tryz.ntmps130
    go_wp2_with (first
      | (go_at_call 168; (with_reducible refine (KP.out _ exA).mono ?_); rintro e w1 ⟨rfl, hx1⟩; have b2 : Blk w1 w.heap.size 119 #[.int .i64 0, .int .i64 0, .slice none 0 0] := BlkE (BlkN rfl) hx1)
      | (go_at_call 169; (with_reducible refine (KC.out _ exA).mono ?_); rintro e w2 ⟨rfl, hx2⟩; have b2 := BlkE b2 hx2)
      | (with_reducible refine wpL_store_row rfl 119 (.tmp 2) (.tmp 33) rfl _ 119 _ _ rfl rfl b2 (three_size.trans three_size.symm) (three_one rfl rfl rfl) 3 fr_wide three_size ?_))
    (try simp only [Exit.inBlock, Exit.then]); refine bodyPost_ret (v := .tuple #[.agg (frcells 0 0 none 0 0), .int .i64 0, .int .i64 62]) (res_row_tt rfl _ w.heap.size 119 _ 3 _ _ rfl rfl rfl ?_ fr_wide rfl) rfl ?_
    · exact Blk.setRow_ b2
    · exact dc_bad hd.out rfl exA
  rw [decide_eq_true hc] at KC
  rw [if_neg (fun h => h hc)] at hd0
  have hd := Lib.hid hd0
  obtain ⟨A2, hs2, hr2⟩ := slice_hi A1 M M N (by omega) (Nat.le_refl _)
  have e1 : (M : Int) - 4 = (N : Int) := by omega
  have hbl : ((l.drop 16).take M).take N = (l.drop 16).take N := by rw [List.take_take, Nat.min_eq_left (by omega)]
  have hl2 : ((l.drop 16).take N).length = N := by rw [List.length_take, List.length_drop]; omega
  have KL := Lib.hid fun W (hx : Ext w W) => clone_any A2 N M ((l.drop 16).take N) W (hbl ▸ hr2 W _ (hr1 W l (hr.ext hx))) (by omega)
  unfold NewB at KL
  have Hl2 := Lib.hid hl2
  rw [hl2] at KL
  generalize (l.drop 16).take N = body at *
  clear hd0 hlen hr hSZ hM hs1 hr1 hcr hc hN hr2 hbl hl2
  go_enter Tryz.func130, Tryz.ntmps130
  go_wp2_with (first
    | (go_at_call 168; (with_reducible refine (KP.out _ exA).mono ?_); rintro e w1 ⟨rfl, hx1⟩; have b2 : Blk w1 w.heap.size 119 #[.int .i64 0, .int .i64 0, .slice none 0 0] := BlkE (BlkN rfl) hx1)
    | (go_at_call 169; (with_reducible refine (KC.out _ exA).mono ?_); rintro e w2 ⟨rfl, hx2⟩; have b2 := BlkE b2 hx2)
    | (go_at_call 53; (with_reducible refine (KL.out _ exA).mono ?_); rintro e w3 ⟨A3, c3, rfl, hx3, ho3⟩; have b3 := BlkE b2 hx3)
    | (with_reducible refine wpL_store_row rfl 119 (.tmp 2) (.tmp 42) rfl _ 119 _ _ rfl rfl b3 (three_size.trans three_size.symm) (three_one rfl rfl rfl) 3 fr_wide three_size ?_))
  (try simp only [Exit.inBlock, Exit.then]); refine bodyPost_ret (v := .tuple #[.agg (frcells k s A3 N c3), .int .i64 (SZ : Nat), .int .i64 0]) (res_row_tt rfl _ w.heap.size 119 _ 3 _ _ rfl rfl rfl ?_ fr_wide rfl) rfl ?_
  · exact Blk.setRow_ b3
  · rw [hd.out]
    have hw2 : w.heap.size ≤ w2.heap.size := ((ExtA (Ext.rfl' w)).tr (hx1.tr hx2)).size
    refine ⟨A3, c3, ?_, exA, ?_, ?_⟩
    · dsimp only
      rw [Hl2.out]
      rfl
    · dsimp only
      rw [Hl2.out]
      exact own_base (own_row_apart ho3 b3) hw2
    · dsimp only
      rw [Hl2.out]
      exact own_capB ho3
end Go.Proofs.YtjajbbgebblalaaGreatDoor

namespace Go.Proofs.YtjajbbgebblalaaGreatDoor
open Go.RowKit
set_option linter.unusedVariables false
set_option linter.unusedSimpArgs false
def RkR (w : World) (l : List UInt8) (c8 c9 : Value) (wr : World) : Prop := ∃ j : Nat, c9 = .int .i64 (9 - (j : Int)) ∧ j ≤ 6 ∧ c8 = .int .i64 (un8 ((l.drop (10 - j)).take j) : Nat) ∧ Ext w wr
theorem rs_step {l : List UInt8} {j : Nat} (hl : 16 ≤ l.length) (hj : j < 6) : un8 ((l.drop (10 - (j + 1))).take (j + 1)) = (l.getD (9 - j) 0).toNat + 256 * un8 ((l.drop (10 - j)).take j) := by
  have h : 9 - j < l.length := by omega
  rw [show 10 - (j + 1) = 9 - j by omega, List.drop_eq_getElem_cons h, List.take_succ_cons, show 9 - j + 1 = 10 - j by omega]
  rw [List.getD_eq_getElem?_getD, List.getElem?_eq_getElem h]
  rfl
theorem rs_bd (l : List UInt8) (j : Nat) (hj : j ≤ 6) : un8 ((l.drop (10 - j)).take j) < 281474976710656 := by
  have h := un8_pow ((l.drop (10 - j)).take j)
  have h2 : ((l.drop (10 - j)).take j).length ≤ j := List.length_take_le _ _
  have h3 : 256 ^ ((l.drop (10 - j)).take j).length ≤ 256 ^ 6 := Nat.pow_le_pow_right (by decide) (by omega)
  omega
theorem fs_split {l : List UInt8} (hl : 16 ≤ l.length) : fs8 l = un8 ((l.drop 4).take 6) + (l.getD 10 0).toNat * 281474976710656 + (l.getD 11 0).toNat * 72057594037927936 := by
  have h1 := fs_step (l := l) (i := 6) hl (by decide)
  have h2 := fs_step (l := l) (i := 7) hl (by decide)
  unfold fs8
  rw [h2, h1]
def HiQ (w : World) (x y : Nat) (v : Value) (wc : World) : Prop := v = .bool (!decide (x = 0) || !decide (y = 0)) ∧ Ext w wc
set_option maxRecDepth 100000 in
set_option maxHeartbeats 4000000 in
theorem rpeek_any (A : Option Addr) (n c : Nat) (l : List UInt8) (w : World) (hr : Rd w A n (u8s l)) (hnc : n ≤ c) (hn : n ≤ maxLen) :
    Calls Tryz.prog 113 #[.slice A n c] w fun e w' => e = PkT (fpeek l) ∧ Ext w w' := by
  have hlen : l.length = n := by have := hr.1; rw [u8s_len] at this; exact this
  by_cases h16 : n < 16
  · have hf : Hid (fpeek l = (0, 0, 0, 60)) := Lib.hid (by unfold fpeek; rw [if_pos (by omega)])
    have t1 : decide ((n : Int) < 16) = true := by simp; omega
    clear hlen
    go_enter Tryz.func113, Tryz.ntmps113
    go_wp2_with fail
    ((try simp only [Exit.inBlock, Exit.then]); refine bodyPost_ret (results_tmp4 rfl _ _ _) rfl ?_)
    exact ⟨by rw [hf.out]; rfl, exA⟩
  by_cases h0 : l.getD 0 0 = 165
  case neg =>
    have hf : Hid (fpeek l = (0, 0, 0, 61)) := Lib.hid (by unfold fpeek; rw [if_neg (by omega), if_pos h0])
    have t1 : decide ((n : Int) < 16) = false := by simp; omega
    obtain ⟨b, o, rfl, e0⟩ := at_u8 hr (show 0 < n by omega)
    have t2 : (((l.getD 0 0).toNat : Int) == 165) = false := by
      simp only [beq_eq_false_iff_ne, ne_eq]
      intro h
      exact h0 (UInt8.toNat_inj.1 (by have : (165 : UInt8).toNat = 165 := rfl; omega))
    generalize (l.getD 0 0).toNat = x at *
    rw [Nat.add_zero] at e0
    clear hlen h0
    go_enter Tryz.func113, Tryz.ntmps113
    go_wp2_with fail
    ((try simp only [Exit.inBlock, Exit.then]); refine bodyPost_ret (results_tmp4 rfl _ _ _) rfl ?_)
    exact ⟨by rw [hf.out]; rfl, exA⟩
  have hl16 : 16 ≤ l.length := by omega
  obtain ⟨A1, hs1, hr1⟩ := slice_hi A n c 12 (by omega) hnc
  have hs1' : ∀ W : World, (Instr.slice 36 (.slice A n c) none (some (.int .i64 12)) none).run Tryz.prog W = .ok (.slice A1 12 c) W := fun W => hs1 W
  obtain ⟨A2, hs2, hr2⟩ := slice_lh A n c 12 16 (by decide) (by omega) hnc
  have hs2' : ∀ W : World, (Instr.slice 36 (.slice A n c) (some (.int .i64 12)) (some (.int .i64 16)) none).run Tryz.prog W = .ok (.slice A2 4 (c - 12)) W := fun W => hs2 W
  have t1 : decide ((n : Int) < 16) = false := by simp; omega
  obtain ⟨b, o, rfl, e0⟩ := at_u8 hr (show 0 < n by omega)
  rw [h0, Nat.add_zero] at e0
  have mixed : Tryz.prog.follows Departure.mixedOrders = true := by kernel_rfl
  have KS := Lib.hid fun W (hx : Ext w W) => rsum_any A1 12 c (l.take 12) W (hr1 W l (hr.ext hx)) (by decide)
  have KF := Lib.hid fun W => rfour_any (csum (l.take 12)) W (csum_lt _)
  unfold NewB at KF
  rw [show (four (csum (l.take 12))).length = 4 from rfl] at KF
  have KE := Lib.hid fun B c2 W (hx : Ext w W) (h : Rd W B 4 (u8s (four (csum (l.take 12))))) => same_any A2 B 4 (c - 12) 4 c2 ((l.drop 12).take (16 - 12)) (four (csum (l.take 12))) W (hr2 W l (hr.ext hx)) h (by decide)
  rw [show (16 - 12 : Nat) = 4 from rfl] at KE
  have HRw := Lib.hid hr
  by_cases hc : (l.drop 12).take 4 = four (csum (l.take 12))
  case neg =>
    have hf : Hid (fpeek l = (0, 0, 0, 62)) := Lib.hid (by unfold fpeek; rw [if_neg (by omega), if_neg (fun h => h h0), if_pos hc])
    rw [decide_eq_false hc] at KE
    generalize four (csum (l.take 12)) = F at *
    generalize csum (l.take 12) = Z at *
    clear hlen h0 hc hs1 hs2 hr hr1 hr2 hl16
    go_enter Tryz.func113, Tryz.ntmps113
    go_wp2_with fail
    go_region_law_o (first
      | (refine step_callG rfl _ rfl 107 _ Tryz.func107 (by kernel_rfl) (by kernel_rfl) _ _ rfl #[.slice A1 12 c] (by simp [Act.eval, Act.put]) _ (KS.out _ (ExtD (Ext.rfl' w))) ?_; rintro e w1 ⟨rfl, hx1⟩; refine ⟨_, rfl, ?_⟩)
      | (refine step_callG rfl _ rfl 106 _ Tryz.func106 (by kernel_rfl) (by kernel_rfl) _ _ rfl #[.int .u32 (Z : Nat)] (by simp [Act.eval, Act.put]) _ (KF.out _) ?_; rintro e w2 ⟨A6, c6, rfl, hx6, ho6⟩; refine ⟨_, rfl, ?_⟩)
      | (refine step_callG rfl _ rfl 29 _ Tryz.func29 (by kernel_rfl) (by kernel_rfl) _ _ rfl #[.slice A2 4 (c - 12), .slice A6 4 c6] (by simp [Act.eval, Act.put]) _ (KE.out A6 c6 _ exA (rd_own ho6)) ?_; rintro e w3 ⟨rfl, hx3⟩; refine ⟨_, rfl, ?_⟩))
    all_goals
      go_wp2_with fail
      ((try simp only [Exit.inBlock, Exit.then]); refine bodyPost_ret (results_tmp4 rfl _ _ _) rfl ?_)
      exact ⟨by rw [hf.out]; rfl, exA⟩
  rw [decide_eq_true hc] at KE
  have hf1 : Hid (fpeek l = if fk l < 1 ∨ 7 < fk l ∨ 16384 < fn l ∨ 1099511627776 < fs8 l then (0, 0, 0, 63) else (fk l, fs8 l, 20 + fn l, 0)) := Lib.hid (by unfold fpeek; rw [if_neg (by omega), if_neg (fun h => h h0), if_neg (fun h => h hc)])
  have hsp := fs_split hl16
  obtain ⟨_, _, hA1, e1⟩ := at_u8 hr (show 1 < n by omega)
  injection hA1 with hA1
  injection hA1 with hb ho
  subst hb ho
  obtain ⟨_, _, hA1, e2⟩ := at_u8 hr (show 2 < n by omega)
  injection hA1 with hA1
  injection hA1 with hb ho
  subst hb ho
  obtain ⟨_, _, hA1, e3⟩ := at_u8 hr (show 3 < n by omega)
  injection hA1 with hA1
  injection hA1 with hb ho
  subst hb ho
  obtain ⟨_, _, hA1, e10⟩ := at_u8 hr (show 10 < n by omega)
  injection hA1 with hA1
  injection hA1 with hb ho
  subst hb ho
  obtain ⟨_, _, hA1, e11⟩ := at_u8 hr (show 11 < n by omega)
  injection hA1 with hA1
  injection hA1 with hb ho
  subst hb ho
  obtain ⟨x1, hx1⟩ : ∃ x, x = (l.getD 1 0).toNat := ⟨_, rfl⟩
  obtain ⟨x2, hx2⟩ : ∃ x, x = (l.getD 2 0).toNat := ⟨_, rfl⟩
  obtain ⟨x3, hx3⟩ : ∃ x, x = (l.getD 3 0).toNat := ⟨_, rfl⟩
  obtain ⟨x10, hx10⟩ : ∃ x, x = (l.getD 10 0).toNat := ⟨_, rfl⟩
  obtain ⟨x11, hx11⟩ : ∃ x, x = (l.getD 11 0).toNat := ⟨_, rfl⟩
  have b1 : x1 ≤ 255 := by have := (l.getD 1 0).toNat_lt; omega
  have b2 : x2 ≤ 255 := by have := (l.getD 2 0).toNat_lt; omega
  have b3 : x3 ≤ 255 := by have := (l.getD 3 0).toNat_lt; omega
  have hk0 : Hid (fk l = x1) := Lib.hid (by unfold fk; rw [hx1])
  have hn0 : Hid (fn l = x2 + 256 * x3) := Lib.hid (by unfold fn; rw [hx2, hx3])
  rw [← hx1] at e1
  rw [← hx2] at e2
  rw [← hx3] at e3
  rw [← hx10] at e10 hsp
  rw [← hx11] at e11 hsp
  have Hsp := Lib.hid hsp
  have Hlen := Lib.hid hlen
  generalize four (csum (l.take 12)) = F at *
  generalize csum (l.take 12) = Z at *
  clear hlen h0 hc hs1 hs2 hr hr1 hr2 hl16 hsp hx1 hx2 hx3 hx10 hx11
  go_enter Tryz.func113, Tryz.ntmps113
  go_wp2_with fail
  go_cut [24] (fun v24 wc => v24 = .bool false ∧ Ext w wc)
  case first =>
    go_region_law_o (first
      | (refine step_callG rfl _ rfl 107 _ Tryz.func107 (by kernel_rfl) (by kernel_rfl) _ _ rfl #[.slice A1 12 c] (by simp [Act.eval, Act.put]) _ (KS.out _ (ExtD (Ext.rfl' w))) ?_; rintro e w1 ⟨rfl, hx1⟩; refine ⟨_, rfl, ?_⟩)
      | (refine step_callG rfl _ rfl 106 _ Tryz.func106 (by kernel_rfl) (by kernel_rfl) _ _ rfl #[.int .u32 (Z : Nat)] (by simp [Act.eval, Act.put]) _ (KF.out _) ?_; rintro e w2 ⟨A6, c6, rfl, hx6, ho6⟩; refine ⟨_, rfl, ?_⟩)
      | (refine step_callG rfl _ rfl 29 _ Tryz.func29 (by kernel_rfl) (by kernel_rfl) _ _ rfl #[.slice A2 4 (c - 12), .slice A6 4 c6] (by simp [Act.eval, Act.put]) _ (KE.out A6 c6 _ exA (rd_own ho6)) ?_; rintro e w3 ⟨rfl, hx3⟩; refine ⟨_, rfl, ?_⟩))
    all_goals
      go_wp2_with fail
      go_meet
      case rel => exact ⟨rfl, exA⟩
  case rest =>
    obtain ⟨rfl, hx1⟩ := hcut
    have f1 := hx1.cell e1
    have f2 := hx1.cell e2
    have f3 := hx1.cell e3
    have q1 : IntKind.i64.wrap (256 * (x3 : Int)) = 256 * (x3 : Int) := wraps_i64 _ (by omega) (by omega)
    obtain ⟨N, hN⟩ : ∃ N, N = x2 + 256 * x3 := ⟨_, rfl⟩
    have q2 : IntKind.i64.wrap ((x2 : Int) + 256 * (x3 : Int)) = (N : Int) := by rw [hN, wraps_i64 _ (by omega) (by omega)]; omega
    rw [← hN] at hn0
    clear hN
    go_wp2_with fail
    go_quiet (fail)
    have hx2 : Ext w (wc.drewN nq) := ExtDN hx1
    have g10 := hx2.cell e10
    have g11 := hx2.cell e11
    go_upto_region 8 with fail
    clear hx1 f1 f2 f3 q1 q2
    generalize wc.drewN nq = w5 at *
    go_cut [7] (fun v7 wc => HiQ w x10 x11 v7 wc)
    case first =>
      by_cases d10 : x10 = 0
      · have k10 : ((x10 : Int) == 0) = true := by simp; omega
        by_cases d11 : x11 = 0
        · have k11 : ((x11 : Int) == 0) = true := by simp; omega
          go_wp2_with fail
          go_meet
          case rel => exact ⟨by rw [decide_eq_true d10, decide_eq_true d11]; rfl, exA⟩
        · have k11 : ((x11 : Int) == 0) = false := by simp; omega
          go_wp2_with fail
          go_meet
          case rel => exact ⟨by rw [decide_eq_true d10, decide_eq_false d11]; simp [bne, k11], exA⟩
      · have k10 : ((x10 : Int) == 0) = false := by simp; omega
        go_wp2_with fail
        go_meet
        case rel => exact ⟨by rw [decide_eq_false d10]; rfl, exA⟩
    case rest =>
      obtain ⟨rfl, hx3⟩ := hcut
      have hH : Hid ((!decide (x10 = 0) || !decide (x11 = 0)) = decide (x10 ≠ 0 ∨ x11 ≠ 0)) := Lib.hid (by by_cases a : x10 = 0 <;> by_cases b : x11 = 0 <;> simp [a, b])
      rw [hH.out]
      clear g10 g11 hx2
      go_wp2_with fail
      go_loopw [8, 9] (fun c8 c9 wr => RkR w l c8 c9 wr) (fun _ c9 _ => (intOf c9 - 3).toNat)
      case atStart => exact ⟨0, rfl, by omega, rfl, hx3⟩
      case round =>
        obtain ⟨j, rfl, hj, rfl, hx⟩ := hrel
        by_cases hlt : j < 6
        · have hst := rs_step (l := l) (j := j) (by have := Hlen.out; omega) hlt
          have hbd := rs_bd l j (by omega)
          obtain ⟨_, _, hA1, ei⟩ := at_u8 HRw.out (show 9 - j < n by omega)
          injection hA1 with hA1
          injection hA1 with hb ho
          subst hb ho
          obtain ⟨z, hz⟩ : ∃ z, z = (l.getD (9 - j) 0).toNat := ⟨_, rfl⟩
          have hzb : z ≤ 255 := by have := (l.getD (9 - j) 0).toNat_lt; omega
          rw [← hz] at ei hst
          have ei2 : wr.cell? ⟨b, o + (9 - j), none⟩ = some (.int .u8 (z : Nat)) := hx.cell ei
          have HST := Lib.hid hst
          clear hst ei hz
          generalize un8 ((l.drop (10 - j)).take j) = acc at *
          have u1 : decide ((4 : Int) ≤ 9 - (j : Int)) = true := by simp; omega
          have u2 : decide ((j : Int) ≤ 9) = true := by simp; omega
          have u3 : (9 - (j : Int)).toNat = 9 - j := by omega
          go_wp2_with fail
          go_roundw
          case rel => exact ⟨j + 1, congrArg (Value.int .i64) (by omega), by omega, congrArg (Value.int .i64) (by rw [HST.out]; omega), hx⟩
          case measure => simp [intOf]; omega
        · obtain rfl : j = 6 := by omega
          have hSb := rs_bd l 6 (by omega)
          rw [show 10 - 6 = 4 from rfl] at hSb ⊢
          generalize un8 ((l.drop 4).take 6) = S at *
          have g1 : wr.cell? ⟨b, o + 1, none⟩ = some (.int .u8 (x1 : Nat)) := hx.cell e1
          have HE : Hid (PkT (fpeek l) = PkT (if x1 < 1 ∨ 7 < x1 ∨ 16384 < N ∨ (x10 ≠ 0 ∨ x11 ≠ 0) ∨ 1099511627776 < S then (0, 0, 0, 63) else (x1, S, 20 + N, 0))) := Lib.hid (by
            rw [hf1.out, hk0.out, hn0.out, Hsp.out]
            by_cases hh : x10 ≠ 0 ∨ x11 ≠ 0
            · rw [if_pos (by omega), if_pos (by omega)]
            · have z0 : x10 = 0 := by omega
              have z1 : x11 = 0 := by omega
              rw [z0, z1]
              simp)
          have q0 : decide ((4 : Int) ≤ 9 - 6) = false := by decide
          by_cases c1 : x1 < 1
          · have u1 : decide ((x1 : Int) < 1) = true := by simp; omega
            go_wp2_with fail
            ((try simp only [Exit.inBlock, Exit.then]); refine bodyPost_ret (results_tmp4 rfl _ _ _) rfl ?_)
            exact ⟨by rw [HE.out, if_pos (by omega)]; rfl, exA⟩
          have u1 : decide ((x1 : Int) < 1) = false := by simp; omega
          by_cases c2 : 7 < x1
          · have u2 : decide ((7 : Int) < (x1 : Int)) = true := by simp; omega
            go_wp2_with fail
            ((try simp only [Exit.inBlock, Exit.then]); refine bodyPost_ret (results_tmp4 rfl _ _ _) rfl ?_)
            exact ⟨by rw [HE.out, if_pos (by omega)]; rfl, exA⟩
          have u2 : decide ((7 : Int) < (x1 : Int)) = false := by simp; omega
          by_cases c3 : 16384 < N
          · have u3 : decide ((16384 : Int) < (N : Int)) = true := by simp; omega
            go_wp2_with fail
            ((try simp only [Exit.inBlock, Exit.then]); refine bodyPost_ret (results_tmp4 rfl _ _ _) rfl ?_)
            exact ⟨by rw [HE.out, if_pos (by omega)]; rfl, exA⟩
          have u3 : decide ((16384 : Int) < (N : Int)) = false := by simp; omega
          by_cases c4 : x10 ≠ 0 ∨ x11 ≠ 0
          · rw [decide_eq_true c4]
            go_wp2_with fail
            ((try simp only [Exit.inBlock, Exit.then]); refine bodyPost_ret (results_tmp4 rfl _ _ _) rfl ?_)
            exact ⟨by rw [HE.out, if_pos (by omega)]; rfl, exA⟩
          rw [decide_eq_false c4]
          by_cases c5 : 1099511627776 < S
          · have u5 : decide ((1099511627776 : Int) < (S : Int)) = true := by simp; omega
            go_wp2_with fail
            ((try simp only [Exit.inBlock, Exit.then]); refine bodyPost_ret (results_tmp4 rfl _ _ _) rfl ?_)
            exact ⟨by rw [HE.out, if_pos (by omega)]; rfl, exA⟩
          have u5 : decide ((1099511627776 : Int) < (S : Int)) = false := by simp; omega
          go_wp2_with fail
          ((try simp only [Exit.inBlock, Exit.then]); refine bodyPost_ret (results_tmp4 rfl _ _ _) rfl ?_)
          exact ⟨by rw [HE.out, if_neg (by omega)]; rfl, exA⟩
set_option maxRecDepth 100000 in
set_option maxHeartbeats 4000000 in
theorem rfdec_any (A : Option Addr) (n c : Nat) (l : List UInt8) (w : World) (hr : Rd w A n (u8s l)) (hnc : n ≤ c) (hn : n ≤ maxLen) :
    Calls Tryz.prog 71 #[.slice A n c] w (DcPost w (fdec l)) := by
  have hlen : l.length = n := by have := hr.1; rw [u8s_len] at this; exact this
  have KP := Lib.hid fun W (hx : Ext w W) => rpeek_any A n c l W (hr.ext hx) hnc hn
  by_cases he : (fpeek l).2.2.2 = 0
  case neg =>
    have hp := peek_bad he
    have hd : Hid (fdec l = ((0, 0, []), 0, (fpeek l).2.2.2)) := Lib.hid (by unfold fdec; rw [if_pos he])
    have KP2 : Hid (∀ W, Ext w W → Calls Tryz.prog 113 #[.slice A n c] W fun e w' => e = PkT (0, 0, 0, (fpeek l).2.2.2) ∧ Ext W w') := Lib.hid fun W hx => by
      have := KP.out W hx
      rw [hp] at this
      exact this
    have u1 : (((fpeek l).2.2.2 : Int) == 0) = false := by simp; omega
    unfold PkT at KP2
    dsimp only at KP2
    generalize (fpeek l).2.2.2 = E at *
    clear hlen hr hp he KP
    go_enter Tryz.func71, Tryz.ntmps71
    go_wp2_with (first | (with_reducible refine wpL_store_row rfl 119 (.tmp 2) (.tmp 19) rfl _ 119 _ _ rfl rfl b2 (three_size.trans three_size.symm) (three_one rfl rfl rfl) 3 fr_wide three_size ?_) | go_at_call 113; (with_reducible refine (KP2.out _ exA).mono ?_); rintro e w1 ⟨rfl, hx1⟩; have b2 : Blk w1 w.heap.size 119 #[.int .i64 0, .int .i64 0, .slice none 0 0] := BlkE (BlkN rfl) hx1)
    (try simp only [Exit.inBlock, Exit.then]); refine bodyPost_ret (v := .tuple #[.agg (frcells 0 0 none 0 0), .int .i64 0, .int .i64 (E : Nat)]) (res_row_tt rfl _ w.heap.size 119 _ 3 _ _ rfl rfl rfl ?_ fr_wide rfl) rfl ?_
    · exact Blk.setRow_ b2
    · exact dc_bad hd.out rfl exA
  obtain ⟨p1, p2, p3, p4, p5, p6, p7, p8⟩ := fpeek_ok he
  have hd0 : fdec l = if l.length < 20 + fn l then ((0, 0, []), 0, 60) else if (l.drop (16 + fn l)).take 4 ≠ four (csum ((l.drop 16).take (fn l))) then ((0, 0, []), 0, 62) else ((fk l, fs8 l, (l.drop 16).take (fn l)), 20 + fn l, 0) := by
    unfold fdec
    rw [if_neg (by simp [he]), p8]
  rw [p8] at KP
  unfold PkT at KP
  dsimp only at KP
  obtain ⟨N, hN0⟩ : ∃ N, N = fn l := ⟨_, rfl⟩
  rw [← hN0] at hd0 KP p6
  generalize fk l = k at *
  generalize fs8 l = s at *
  obtain ⟨SZ, hSZ⟩ : ∃ SZ, SZ = 20 + N := ⟨_, rfl⟩
  rw [← hSZ] at hd0 KP
  clear p1 p2 p3 p8 he hN0
  by_cases hs : n < SZ
  · rw [hlen, if_pos hs] at hd0
    have hd := Lib.hid hd0
    have u1 : decide (n < SZ) = true := by simpa using hs
    clear hd0 hlen hr hSZ
    go_enter Tryz.func71, Tryz.ntmps71
    go_wp2_with (first | (with_reducible refine wpL_store_row rfl 119 (.tmp 2) (.tmp 25) rfl _ 119 _ _ rfl rfl b2 (three_size.trans three_size.symm) (three_one rfl rfl rfl) 3 fr_wide three_size ?_) | go_at_call 113; (with_reducible refine (KP.out _ exA).mono ?_); rintro e w1 ⟨rfl, hx1⟩; have b2 : Blk w1 w.heap.size 119 #[.int .i64 0, .int .i64 0, .slice none 0 0] := BlkE (BlkN rfl) hx1)
    (try simp only [Exit.inBlock, Exit.then]); refine bodyPost_ret (v := .tuple #[.agg (frcells 0 0 none 0 0), .int .i64 0, .int .i64 60]) (res_row_tt rfl _ w.heap.size 119 _ 3 _ _ rfl rfl rfl ?_ fr_wide rfl) rfl ?_
    · exact Blk.setRow_ b2
    · exact dc_bad hd.out rfl exA
  have u1 : decide (n < SZ) = false := by simpa using hs
  rw [hlen, if_neg hs] at hd0
  obtain ⟨Q, hQ⟩ : ∃ Q, Q = 16 + N := ⟨_, rfl⟩
  rw [← hQ] at hd0
  have hQb : Q ≤ 16400 := by omega
  have hSb : SZ ≤ 16404 := by omega
  have e1 : (SZ : Int) - 4 = (Q : Int) := by omega
  have e1w : IntKind.i64.wrap (Q : Int) = (Q : Int) := wraps_i64 _ (by omega) (by omega)
  obtain ⟨A1, hs1, hr1⟩ := slice_lh A n c 16 Q (by omega) (by omega) hnc
  rw [show Q - 16 = N by omega] at hs1 hr1
  have hs1' : ∀ W : World, (Instr.slice 36 (.slice A n c) (some (.int .i64 16)) (some (.int .i64 (Q : Nat))) none).run Tryz.prog W = .ok (.slice A1 N (c - 16)) W := fun W => hs1 W
  obtain ⟨A2, hs2, hr2⟩ := slice_lh A n c Q SZ (by omega) (by omega) hnc
  rw [show SZ - Q = 4 by omega] at hs2 hr2
  have hl2 : ((l.drop 16).take N).length = N := by rw [List.length_take, List.length_drop]; omega
  have KC := Lib.hid fun W (hx : Ext w W) => copy_any A1 N (c - 16) ((l.drop 16).take N) W (hr1 W l (hr.ext hx)) (by omega)
  unfold NewB at KC
  rw [hl2] at KC
  have KS := Lib.hid fun B c2 W (h : Rd W B N (u8s ((l.drop 16).take N))) => rsum_any B N c2 ((l.drop 16).take N) W h (by simp only [maxLen]; omega)
  have KF := Lib.hid fun W => rfour_any (csum ((l.drop 16).take N)) W (csum_lt _)
  unfold NewB at KF
  rw [show (four (csum ((l.drop 16).take N))).length = 4 from rfl] at KF
  have KE := Lib.hid fun B c2 W (hx : Ext w W) (h : Rd W B 4 (u8s (four (csum ((l.drop 16).take N))))) => same_any A2 B 4 (c - Q) 4 c2 ((l.drop Q).take 4) (four (csum ((l.drop 16).take N))) W (hr2 W l (hr.ext hx)) h (by decide)
  have Hl2 := Lib.hid hl2
  have mixed : Tryz.prog.follows Departure.mixedOrders = true := by kernel_rfl
  obtain ⟨D, hD⟩ : ∃ D, D = decide ((l.drop Q).take 4 = four (csum ((l.drop 16).take N))) := ⟨_, rfl⟩
  rw [← hD] at KE
  have hd : Hid (fdec l = if D = false then ((0, 0, []), 0, 62) else ((k, s, (l.drop 16).take N), SZ, 0)) := Lib.hid (by
    rw [hd0]
    by_cases hc : (l.drop Q).take 4 = four (csum ((l.drop 16).take N))
    · rw [if_neg (fun h => h hc), if_neg (by rw [hD]; simp [hc])]
    · rw [if_pos hc, if_pos (by rw [hD]; simp [hc])])
  generalize four (csum ((l.drop 16).take N)) = F at *
  generalize csum ((l.drop 16).take N) = Z at *
  generalize (l.drop 16).take N = body at *
  clear hd0 hlen hr hSZ hQ hs1 hr1 hr2 hl2 hD
  go_enter Tryz.func71, Tryz.ntmps71
  go_wp2_with (first
    | (go_at_call 113; (with_reducible refine (KP.out _ exA).mono ?_); rintro e w1 ⟨rfl, hx1⟩; have b2 : Blk w1 w.heap.size 119 #[.int .i64 0, .int .i64 0, .slice none 0 0] := BlkE (BlkN rfl) hx1)
    | (go_at_call 31; (with_reducible refine (KC.out _ exA).mono ?_); rintro e w2 ⟨A3, c3, rfl, hx2, ho2⟩; have b2 := BlkE b2 hx2))
  go_cut [40] (fun v40 wc => v40 = .bool (!D) ∧ Ext w2 wc)
  case first =>
    have hw2 : Ext w w2 := ((ExtA (Ext.rfl' w)).tr hx1).tr hx2
    have R2 := Lib.hid (rd_own ho2)
    go_region_law_o (first
      | (refine step_callG rfl _ rfl 107 _ Tryz.func107 (by kernel_rfl) (by kernel_rfl) _ _ rfl #[.slice A3 N c3] (by simp [Act.eval, Act.put]) _ (KS.out A3 c3 _ (R2.out.ext (ExtD (Ext.rfl' w2)))) ?_; rintro e w3 ⟨rfl, hx3⟩; refine ⟨_, rfl, ?_⟩)
      | (refine step_callG rfl _ rfl 106 _ Tryz.func106 (by kernel_rfl) (by kernel_rfl) _ _ rfl #[.int .u32 (Z : Nat)] (by simp [Act.eval, Act.put]) _ (KF.out _) ?_; rintro e w4 ⟨A6, c6, rfl, hx6, ho6⟩; refine ⟨_, rfl, ?_⟩)
      | (refine step_callG rfl _ rfl 29 _ Tryz.func29 (by kernel_rfl) (by kernel_rfl) _ _ rfl #[.slice A2 4 (c - Q), .slice A6 4 c6] (by simp [Act.eval, Act.put]) _ (KE.out A6 c6 _ (hw2.tr exA) (rd_own ho6)) ?_; rintro e w5 ⟨rfl, hx5⟩; refine ⟨_, rfl, ?_⟩))
    all_goals
      go_wp2_with fail
      go_meet
      case rel => exact ⟨rfl, exA⟩
  case rest =>
    obtain ⟨rfl, hx3⟩ := hcut
    have b2 := BlkE b2 hx3
    have ho3 := own_ext hx3 ho2
    have hX : Ext w wc := (((ExtA (Ext.rfl' w)).tr hx1).tr hx2).tr hx3
    have hw1 : w.heap.size ≤ w1.heap.size := ((ExtA (Ext.rfl' w)).tr hx1).size
    clear hx1 hx2 hx3 ho2
    cases D with
    | false =>
      go_wp2_with (with_reducible refine wpL_store_row rfl 119 (.tmp 2) (.tmp 41) rfl _ 119 _ _ rfl rfl b2 (three_size.trans three_size.symm) (three_one rfl rfl rfl) 3 fr_wide three_size ?_)
      (try simp only [Exit.inBlock, Exit.then]); refine bodyPost_ret (v := .tuple #[.agg (frcells 0 0 none 0 0), .int .i64 0, .int .i64 62]) (res_row_tt rfl _ w.heap.size 119 _ 3 _ _ rfl rfl rfl ?_ fr_wide rfl) rfl ?_
      · exact Blk.setRow_ b2
      · exact dc_bad (by rw [hd.out]; rfl) rfl exA
    | true =>
      go_wp2_with (with_reducible refine wpL_store_row rfl 119 (.tmp 2) (.tmp 45) rfl _ 119 _ _ rfl rfl b2 (three_size.trans three_size.symm) (three_one rfl rfl rfl) 3 fr_wide three_size ?_)
      (try simp only [Exit.inBlock, Exit.then]); refine bodyPost_ret (v := .tuple #[.agg (frcells k s A3 N c3), .int .i64 (SZ : Nat), .int .i64 0]) (res_row_tt rfl _ w.heap.size 119 _ 3 _ _ rfl rfl rfl ?_ fr_wide rfl) rfl ?_
      · exact Blk.setRow_ b2
      · rw [hd.out, if_neg (by decide)]
        refine ⟨A3, c3, ?_, exA, ?_, ?_⟩
        · dsimp only
          rw [Hl2.out]
          rfl
        · dsimp only
          rw [Hl2.out]
          exact own_base (own_row_apart ho3 b2) hw1
        · dsimp only
          rw [Hl2.out]
          exact own_capB ho3
end Go.Proofs.YtjajbbgebblalaaGreatDoor
