/-
  The walks of varint.Encode and of the reference's Encode.
-/
/-
  The walk of varint.Decode.
-/
import Derived.Test.YtjajbbgebblalaaGreatDoorBytesW
import Derived.Lib.VarintBits
namespace Go.Proofs.YtjajbbgebblalaaGreatDoor
open Go.RowKit
set_option linter.unusedVariables false
set_option linter.unusedSimpArgs false
theorem or128 (m : Nat) : bits BinOp.or IntKind.u8 ((m : Int) % 256) 128 = ((UInt8.ofNat (128 + m % 128)).toNat : Nat) := by
  have h1 : ((m : Int) % 256) = ((m % 256 : Nat) : Int) := by omega
  have h2 : ∀ x : Fin 256, bits BinOp.or IntKind.u8 ((x.val : Nat) : Int) 128 = ((128 + x.val % 128 : Nat) : Int) := by decide +kernel
  rw [h1, h2 ⟨m % 256, by omega⟩, toNat_ofNat (by omega)]
  simp only
  omega
def VEncR (W : World) (u : Nat) (c0 c3 : Value) (wr : World) : Prop :=
  ∃ (m : Nat) (pre : List UInt8) (A : Option Addr) (c : Nat), c0 = .int .u64 m ∧ c3 = .slice A pre.length c ∧ m ≤ 18446744073709551615 ∧ pre ++ venc m = venc u ∧ Ext W wr ∧ W.heap.size ≤ wr.heap.size ∧ wr.ownsRow W.heap.size 5 1 (.slice A pre.length c) pre.length (u8s pre)
set_option maxRecDepth 100000 in
set_option maxHeartbeats 1000000 in
theorem venc_any (u : Nat) (w : World) (hu : u ≤ 18446744073709551615) : Calls Tryz.prog 81 #[.int .u64 (u : Nat)] w (NewB w (venc u)) := by
  have hl := venc_len10 u (by omega)
  have hmk : ∀ w, (Instr.makeSlice 36 (.int .i64 0) (.int .i64 10)).run Tryz.prog w = .ok (.slice (some ⟨w.heap.size, 0, none⟩) 0 10) (w.alloc (.cells (madeCells #[.int .u8 0] 10) 5)) := fun _ => by kernel_rfl
  go_enter Tryz.func81, Tryz.ntmps81
  go_wp2_with fail
  go_loopw [0, 3] (fun c0 c3 wr => VEncR w u c0 c3 wr) (fun c0 _ _ => (intOf c0).toNat)
  case atStart => exact ⟨u, [], _, _, rfl, rfl, hu, rfl, (by repeat (first | with_reducible exact Below.refl _ _ | with_reducible assumption | with_reducible refine ExtD ?_ | with_reducible refine ExtDN ?_ | with_reducible refine ExtA ?_ | (with_reducible refine ExtR ?_ ?_; (first | omega | (dsimp only; omega) | (simp; done) | (simp; omega))) | (with_reducible refine ExtS ?_ ?_; (first | omega | (dsimp only; omega) | (simp; done) | (simp; omega))) | with_reducible refine Ext.tr ?_ (by with_reducible assumption))), by simp, World.ownsRow_made w _ 10 (Nat.le_refl _) (by decide) (by simp [madeCells])⟩
  case round =>
    obtain ⟨m, pre, A0, c0, rfl, rfl, hm, hp, hx, hs, hown⟩ := hrel
    have Hp := Lib.hid hp
    have hpl : pre.length + (venc m).length ≤ 10 := by rw [← hp, List.length_append] at hl; exact hl
    clear hp
    have Hm := Lib.hid hm
    have Hu := Lib.hid hu
    clear hm hu
    by_cases h : m < 128
    · have hb := venc_lo h
      have Hb := Lib.hid (show pre ++ [UInt8.ofNat m] = venc u by rw [← hb]; exact Hp.out)
      have e0 : (m : Int) = ((UInt8.ofNat m).toNat : Nat) := by rw [toNat_ofNat (by omega)]
      have R0 := fun W : World => rd_byte W (m : Int) _ e0
      clear hb e0
      go_wp2_with (at_builtin; go_must (refine wpB_append rfl (.tmp 15) (.tmp 18) rfl w rfl (hown.alloc _) (ExtA hx) rfl (R0 _) (by simp; omega) ?_); intro A2 n2 c2 w2 hx2 hn2 hown2 hk2 hg2)
      go_ret
      rw [hn2.out, Hb.out] at hown2 ⊢
      exact ⟨A2, c2, rfl, hx2, hown2⟩
    · have hb := venc_hi h
      have Hb := Lib.hid (show (pre ++ [UInt8.ofNat (128 + m % 128)]) ++ venc (m / 128) = venc u by rw [List.append_assoc, List.singleton_append, ← hb]; exact Hp.out)
      clear hb
      have R0 := fun W : World => rd_byte W _ _ (or128 m)
      go_wp2_with (at_builtin; go_must (refine wpB_append rfl (.tmp 7) (.tmp 11) rfl w rfl (hown.alloc _) (ExtA hx) rfl (R0 _) (by simp; omega) ?_); intro A2 n2 c2 w2 hx2 hn2 hown2 hk2 hg2)
      go_roundw
      case rel =>
        rw [hn2.out] at hown2 ⊢
        exact ⟨m / 128, _, A2, c2, by go_num, rfl, by have := Hm.out; omega, Hb.out, hx2, hx2.size, hown2⟩
      case measure => simp [intOf]; omega
theorem own_lit (w : World) (x : Int) (c : UInt8) (h : x = (c.toNat : Nat)) : (w.alloc (.cells #[.int .u8 x] 5)).ownsRow w.heap.size 5 1 (.slice (some ⟨w.heap.size, 0, none⟩) 1 1) 1 (u8s [c]) := by
  subst h
  exact own_new w w.heap.size #[_] _ 1 (Nat.le_refl _) (by decide) rfl
theorem u8v {n : Nat} (h : n < 256) : (n : Int) = ((UInt8.ofNat n).toNat : Nat) := by rw [toNat_ofNat h]
set_option maxRecDepth 100000 in
set_option maxHeartbeats 1000000 in
theorem rvenc_any (u : Nat) (w : World) (hu : u ≤ 18446744073709551615) : Calls Tryz.prog 76 #[.int .u64 (u : Nat)] w (NewB w (venc u)) := by
  induction u using Nat.strongRecOn generalizing w with
  | _ u ih =>
    by_cases h : u < 128
    · have Hb := Lib.hid (venc_lo h)
      have e0 := Lib.hid (u8v (show u < 256 by omega))
      go_enter Tryz.func76, Tryz.ntmps76
      go_wp2_with fail
      go_ret
      unfold NewB
      rw [Hb.out]
      exact ⟨_, 1, rfl, (by repeat (first | with_reducible exact Below.refl _ _ | with_reducible assumption | with_reducible refine ExtD ?_ | with_reducible refine ExtDN ?_ | with_reducible refine ExtA ?_ | (with_reducible refine ExtR ?_ ?_; (first | omega | (dsimp only; omega) | (simp; done) | (simp; omega))) | (with_reducible refine ExtS ?_ ?_; (first | omega | (dsimp only; omega) | (simp; done) | (simp; omega))) | with_reducible refine Ext.tr ?_ (by with_reducible assumption))), own_lit w _ _ e0.out⟩
    · have Hb := Lib.hid (venc_hi h)
      have e0 : Hid (128 + (u : Int) % 128 = ((UInt8.ofNat (128 + u % 128)).toNat : Nat)) := Lib.hid (by rw [← u8v (show 128 + u % 128 < 256 by omega)]; omega)
      have Hl := Lib.hid (venc_len10 u (by omega))
      have i : ∀ W, Calls Tryz.prog 76 #[.int .u64 ((u : Int) / 128)] W (NewB W (venc (u / 128))) := fun W => ih (u / 128) (by omega) W (by omega)
      have Hi := Lib.hid i
      clear ih i
      go_enter Tryz.func76, Tryz.ntmps76
      go_wp2_with (first
        | (go_at_call 76; go_must (with_reducible refine (Hi.out _).mono ?_); rintro e w1 ⟨A1, c1, rfl, hx1, hown1⟩; have Hp := Lib.hid (venc_len10 (u / 128) (by omega)); have hxw : Ext w w1 := (by repeat (first | with_reducible exact Below.refl _ _ | with_reducible assumption | with_reducible refine ExtD ?_ | with_reducible refine ExtDN ?_ | with_reducible refine ExtA ?_ | (with_reducible refine ExtR ?_ ?_; (first | omega | (dsimp only; omega) | (simp; done) | (simp; omega))) | (with_reducible refine ExtS ?_ ?_; (first | omega | (dsimp only; omega) | (simp; done) | (simp; omega))) | with_reducible refine Ext.tr ?_ (by with_reducible assumption))))
        | (at_builtin; go_must (refine wpB_append rfl (.tmp 12) (.tmp 15) rfl w rfl (own_ext hx1 (own_lit w _ _ e0.out)) hxw rfl (rd_own hown1) (by have := Hp.out; simp; omega) ?_); intro A2 n2 c2 w2 hx2 hn2 hown2 hk2 hg2))
      go_ret
      unfold NewB
      rw [hn2.out] at hown2 ⊢
      rw [Hb.out]
      exact ⟨A2, c2, rfl, hx2, hown2⟩
end Go.Proofs.YtjajbbgebblalaaGreatDoor

namespace Go.Proofs.YtjajbbgebblalaaGreatDoor
open Go.RowKit
set_option linter.unusedVariables false
set_option linter.unusedSimpArgs false
def DecT (r : Nat × Nat × Nat) : Ending := .returned (.tuple #[.int .u64 (r.1 : Nat), .int .i64 (r.2.1 : Nat), .int .i64 (r.2.2 : Nat)])
def VDecR (W : World) (b : List UInt8) (c5 c10 : Value) (wr : World) : Prop :=
  ∃ k acc : Nat, c5 = .int .u64 acc ∧ c10 = .int .i64 k ∧ k ≤ b.length ∧ k ≤ 9 ∧ acc < 128 ^ k ∧ vdecF (b.drop k) k acc = vdec b ∧ W = wr
theorem drop_at {b : List UInt8} {k : Nat} (h : k < b.length) : b.drop k = b.getD k 0 :: b.drop (k + 1) := by
  rw [List.drop_eq_getElem_cons h]
  simp [List.getD, List.getElem?_eq_getElem h]
theorem pow_27 (k : Nat) : (2 : Int) ^ (7 * k) = ((128 ^ k : Nat) : Int) := by
  rw [Int.pow_mul]
  simp
theorem or_step (k acc z : Nat) (hk : k ≤ 9) (hacc : acc < 128 ^ k) (hz : z ≤ 127) (h9 : k = 9 → z ≤ 1) :
    bits BinOp.or IntKind.u64 (acc : Int) (IntKind.u64.wrap ((z : Int) * 2 ^ (7 * k))) = ((acc + z * 128 ^ k : Nat) : Int) := by
  have h1 : z * 128 ^ k < 18446744073709551616 := by
    rcases Nat.lt_or_ge k 9 with h | h
    · have hp := pow128 (i := k) (by omega)
      have : z * 128 ^ k ≤ 127 * 72057594037927936 := Nat.mul_le_mul hz hp
      omega
    · have hk9 : k = 9 := by omega
      subst hk9
      have := h9 rfl
      have : z * 128 ^ 9 ≤ 1 * 128 ^ 9 := Nat.mul_le_mul_right _ this
      omega
  have h2 : (z : Int) * 2 ^ (7 * k) = ((z * 128 ^ k : Nat) : Int) := by rw [pow_27, Int.natCast_mul]
  have h3 : IntKind.u64.wrap (((z * 128 ^ k : Nat) : Int)) = ((z * 128 ^ k : Nat) : Int) := by
    rw [IntKind.wrap_u64]
    exact Int.emod_eq_of_lt (Int.natCast_nonneg _) (by omega)
  rw [h2, h3, bits_join_low .u64 64 (by decide) wraps_u64 (7 * k) (acc : Int) _ (Int.natCast_nonneg _) ?_ (by have : (128 : Nat) ^ k ≤ 128 ^ 9 := Nat.pow_le_pow_right (by omega) hk; omega) (Int.natCast_nonneg _) ?_ ?_]
  · rw [Int.natCast_add]
  · rw [pow_27]; exact Int.ofNat_lt.2 hacc
  · rw [pow_27, Int.natCast_mul]; exact Int.mul_emod_left _ _
  · omega
theorem vdecF_wide {c : UInt8} {r : List UInt8} {k acc : Nat} (h : k = 9) (h1 : 1 < c.toNat) : vdecF (c :: r) k acc = (0, 0, 12) := by rw [vdecF, if_pos ⟨h, h1⟩]
theorem vdecF_go {c : UInt8} {r : List UInt8} {k acc : Nat} (h : k ≠ 9) (h1 : 128 ≤ c.toNat) : vdecF (c :: r) k acc = vdecF r (k + 1) (acc + c.toNat % 128 * 128 ^ k) := by
  rw [vdecF, if_neg (by omega), if_pos h1]
theorem vdecF_long {c : UInt8} {r : List UInt8} {k acc : Nat} (h : 0 < k) (h1 : c.toNat = 0) : vdecF (c :: r) k acc = (0, 0, 11) := by
  rw [vdecF, if_neg (by omega), if_neg (by omega), if_pos ⟨h1, h⟩]
theorem vdecF_ret {c : UInt8} {r : List UInt8} {k acc : Nat} (h : k = 9 → c.toNat ≤ 1) (h1 : c.toNat < 128) (h2 : c.toNat = 0 → k = 0) : vdecF (c :: r) k acc = (acc + c.toNat % 128 * 128 ^ k, k + 1, 0) := by
  rw [vdecF, if_neg (by omega), if_neg (by omega), if_neg (by omega), Nat.mod_eq_of_lt h1]
set_option maxRecDepth 100000 in
set_option maxHeartbeats 1000000 in
theorem vdec_any (A : Option Addr) (n c : Nat) (b : List UInt8) (w : World) (hr : Rd w A n (u8s b)) (hn : n ≤ maxLen) :
    Calls Tryz.prog 131 #[.slice A n c] w fun e w' => e = DecT (vdec b) ∧ w = w' := by
  unfold maxLen at hn
  have hlen : b.length = n := by have := hr.1; rw [u8s_len] at this; exact this
  have Hlen := Lib.hid hlen
  clear hlen
  go_enter Tryz.func131, Tryz.ntmps131
  go_wp2_with fail
  go_loopw [5, 10] (fun c5 c10 wr => VDecR w b c5 c10 wr) (fun _ c10 _ => n - (intOf c10).toNat)
  case atStart => exact ⟨0, 0, rfl, rfl, by omega, by omega, by decide, rfl, rfl⟩
  case round =>
    obtain ⟨k, acc, rfl, rfl, hk, hk9, hacc, hv, rfl⟩ := hrel
    have Hacc := Lib.hid hacc
    have Hv := Lib.hid hv
    clear hacc hv
    have Hk := Lib.hid hk
    clear hk
    by_cases hlt : k < n
    · obtain ⟨bb, o, rfl, hcell⟩ := at_u8 hr hlt
      obtain ⟨x, hx⟩ : ∃ x, x = b.getD k 0 := ⟨_, rfl⟩
      obtain ⟨y, hy⟩ : ∃ y, y = x.toNat := ⟨_, rfl⟩
      rw [← hx, ← hy] at hcell
      have hy256 : y ≤ 255 := by have := x.toNat_lt; omega
      have Hd := Lib.hid (drop_at (b := b) (k := k) (by have := Hlen.out; omega))
      have Hx := Lib.hid hx
      have Hy := Lib.hid hy
      clear hx hy
      obtain ⟨z, hz⟩ : ∃ z, z = y % 128 := ⟨_, rfl⟩
      have a127 : bits .and .u8 (y : Int) 127 = (z : Int) := by rw [u8_and127 _ (by omega) (by omega)]; omega
      have hz127 : z ≤ 127 := by omega
      obtain ⟨acc', hacc'⟩ : ∃ q, q = acc + z * 128 ^ k := ⟨_, rfl⟩
      have Ha := Lib.hid hacc'
      have Hz := Lib.hid hz
      clear hz hacc'
      by_cases h9 : k = 9
      · have t9 : ((k : Int) == 9) = true := by simp [h9]
        have H9 := Lib.hid h9
        clear h9
        by_cases h1 : 1 < y
        · go_wp2_with fail
          go_ret3
          exact ⟨by rw [← Hv.out, Hd.out, vdecF_wide H9.out (by rw [← Hx.out, ← Hy.out]; exact h1)]; rfl, rfl⟩
        · by_cases h0 : y = 0
          · have t0 : ((y : Int) == 0) = true := by simp [h0]
            have H0 := Lib.hid h0
            have hk0 : 0 < k := by have := H9.out; omega
            clear h0
            go_wp2_with fail
            go_ret3
            exact ⟨by rw [← Hv.out, Hd.out, vdecF_long hk0 (by rw [← Hx.out, ← Hy.out]; exact H0.out)]; rfl, rfl⟩
          · have t0 : ((y : Int) == 0) = false := by simp; omega
            have hor := or_step k acc z hk9 Hacc.out hz127 (fun _ => by have := Hz.out; omega)
            rw [← Ha.out] at hor
            have H0 := Lib.hid h0
            clear h0
            go_wp2_with fail
            go_ret3
            exact ⟨by rw [← Hv.out, Hd.out, vdecF_ret (fun _ => by rw [← Hx.out, ← Hy.out]; omega) (by rw [← Hx.out, ← Hy.out]; omega) (fun h => absurd (by rw [Hy.out, Hx.out]; exact h) H0.out), ← Hx.out, ← Hy.out, ← Hz.out, ← Ha.out]; rfl, rfl⟩
      · have t9 : ((k : Int) == 9) = false := by simp; omega
        have H9 := Lib.hid h9
        have hk8 : k ≤ 8 := by omega
        clear h9
        have hor := or_step k acc z hk9 Hacc.out hz127 (fun h => absurd h H9.out)
        rw [← Ha.out] at hor
        by_cases h1 : 128 ≤ y
        · go_wp2_with fail
          go_roundw
          case rel =>
            refine ⟨k + 1, acc', rfl, by go_num, by have := Hlen.out; omega, by omega, ?_, ?_, rfl⟩
            · rw [Ha.out, Nat.pow_succ]
              have h2 : z * 128 ^ k ≤ 127 * 128 ^ k := Nat.mul_le_mul_right _ hz127
              have h3 := Hacc.out
              omega
            · rw [← Hv.out, Hd.out, vdecF_go H9.out (by rw [← Hx.out, ← Hy.out]; exact h1), ← Hx.out, ← Hy.out, ← Hz.out, ← Ha.out]
          case measure => simp [intOf]; omega
        · by_cases h0 : y = 0 ∧ 0 < k
          · obtain ⟨h0, hk0⟩ := h0
            have t0 : ((y : Int) == 0) = true := by simp [h0]
            have H0 := Lib.hid h0
            clear h0
            go_wp2_with fail
            go_ret3
            exact ⟨by rw [← Hv.out, Hd.out, vdecF_long hk0 (by rw [← Hx.out, ← Hy.out]; exact H0.out)]; rfl, rfl⟩
          · have H0 := Lib.hid h0
            clear h0
            have Hret : Hid (vdec b = (acc', k + 1, 0)) := Lib.hid (by
              rw [← Hv.out, Hd.out, vdecF_ret (fun h => absurd h H9.out) (by rw [← Hx.out, ← Hy.out]; omega) (fun h => by have := H0.out; rw [← Hx.out, ← Hy.out] at h; omega), ← Hx.out, ← Hy.out, ← Hz.out, ← Ha.out])
            by_cases h0 : y = 0
            · have t0 : ((y : Int) == 0) = true := by simp [h0]
              have hk0 : ¬ 0 < k := fun h => H0.out ⟨h0, h⟩
              have t1 : decide (0 < k) = false := by simpa using hk0
              clear h0
              go_wp2_with fail
              go_ret3
              exact ⟨by rw [Hret.out]; rfl, rfl⟩
            · have t0 : ((y : Int) == 0) = false := by simp; omega
              clear h0
              go_wp2_with fail
              go_ret3
              exact ⟨by rw [Hret.out]; rfl, rfl⟩
    · have hkn : k = n := by have := Hk.out; have := Hlen.out; omega
      have Hs : Hid (vdec b = (0, 0, 10)) := Lib.hid (by rw [← Hv.out, List.drop_of_length_le (by have := Hlen.out; omega)]; rfl)
      clear hkn
      go_wp2_with fail
      go_ret3
      exact ⟨by rw [Hs.out]; rfl, rfl⟩
end Go.Proofs.YtjajbbgebblalaaGreatDoor
