/-
  The walk of varint.Decode.
-/
import Derived.Test.YtjajbbgebblalaaGreatDoorBytesW
import Derived.Lib.VarintBits
namespace Go.Proofs.YtjajbbgebblalaaGreatDoor
open Go.RowKit
set_option linter.unusedVariables false
set_option linter.unusedSimpArgs false
def DecT (r : Nat × Nat × Nat) : Ending := .returned (.tuple #[.int .u64 (r.1 : Nat), .int .i64 (r.2.1 : Nat), .int .i64 (r.2.2 : Nat)])
def VDecR (W : World) (b : List UInt8) (c5 c10 : Value) (wr : World) : Prop :=
  ∃ k acc : Nat, c5 = .int .u64 acc ∧ c10 = .int .i64 k ∧ k ≤ b.length ∧ k ≤ 9 ∧ acc < 128 ^ k ∧ vdecF (b.drop k) k acc = vdec b ∧ W = wr
theorem drop_at {b : List UInt8} {k : Nat} (h : k < b.length) : b.drop k = b.getD k 0 :: b.drop (k + 1) := by
  rw [List.drop_eq_getElem_cons h]
  simp [List.getD, List.getElem?_eq_getElem h]
theorem pow_27 (k : Nat) : (2 : Int) ^ (7 * k) = ((128 ^ k : Nat) : Int) := by
  rw [Int.pow_mul]
  simp
theorem or_step (k acc z : Nat) (hk : k ≤ 9) (hacc : acc < 128 ^ k) (hz : z ≤ 127) (h9 : k = 9 → z ≤ 1) :
    bits BinOp.or IntKind.u64 (acc : Int) (IntKind.u64.wrap ((z : Int) * 2 ^ (7 * k))) = ((acc + z * 128 ^ k : Nat) : Int) := by
  have h1 : z * 128 ^ k < 18446744073709551616 := by
    rcases Nat.lt_or_ge k 9 with h | h
    · have hp := pow128 (i := k) (by omega)
      have : z * 128 ^ k ≤ 127 * 72057594037927936 := Nat.mul_le_mul hz hp
      omega
    · have hk9 : k = 9 := by omega
      subst hk9
      have := h9 rfl
      have : z * 128 ^ 9 ≤ 1 * 128 ^ 9 := Nat.mul_le_mul_right _ this
      omega
  have h2 : (z : Int) * 2 ^ (7 * k) = ((z * 128 ^ k : Nat) : Int) := by rw [pow_27, Int.natCast_mul]
  have h3 : IntKind.u64.wrap (((z * 128 ^ k : Nat) : Int)) = ((z * 128 ^ k : Nat) : Int) := by
    rw [IntKind.wrap_u64]
    exact Int.emod_eq_of_lt (Int.natCast_nonneg _) (by omega)
  rw [h2, h3, bits_join_low .u64 64 (by decide) wraps_u64 (7 * k) (acc : Int) _ (Int.natCast_nonneg _) ?_ (by have : (128 : Nat) ^ k ≤ 128 ^ 9 := Nat.pow_le_pow_right (by omega) hk; omega) (Int.natCast_nonneg _) ?_ ?_]
  · rw [Int.natCast_add]
  · rw [pow_27]; exact Int.ofNat_lt.2 hacc
  · rw [pow_27, Int.natCast_mul]; exact Int.mul_emod_left _ _
  · omega
theorem vdecF_wide {c : UInt8} {r : List UInt8} {k acc : Nat} (h : k = 9) (h1 : 1 < c.toNat) : vdecF (c :: r) k acc = (0, 0, 12) := by rw [vdecF, if_pos ⟨h, h1⟩]
theorem vdecF_go {c : UInt8} {r : List UInt8} {k acc : Nat} (h : k ≠ 9) (h1 : 128 ≤ c.toNat) : vdecF (c :: r) k acc = vdecF r (k + 1) (acc + c.toNat % 128 * 128 ^ k) := by
  rw [vdecF, if_neg (by omega), if_pos h1]
theorem vdecF_long {c : UInt8} {r : List UInt8} {k acc : Nat} (h : 0 < k) (h1 : c.toNat = 0) : vdecF (c :: r) k acc = (0, 0, 11) := by
  rw [vdecF, if_neg (by omega), if_neg (by omega), if_pos ⟨h1, h⟩]
theorem vdecF_ret {c : UInt8} {r : List UInt8} {k acc : Nat} (h : k = 9 → c.toNat ≤ 1) (h1 : c.toNat < 128) (h2 : c.toNat = 0 → k = 0) : vdecF (c :: r) k acc = (acc + c.toNat % 128 * 128 ^ k, k + 1, 0) := by
  rw [vdecF, if_neg (by omega), if_neg (by omega), if_neg (by omega), Nat.mod_eq_of_lt h1]
set_option maxRecDepth 100000 in
set_option maxHeartbeats 1000000 in
theorem vdec_any (A : Option Addr) (n c : Nat) (b : List UInt8) (w : World) (hr : Rd w A n (u8s b)) (hn : n ≤ maxLen) :
    Calls Tryz.prog 131 #[.slice A n c] w fun e w' => e = DecT (vdec b) ∧ w = w' := by
  unfold maxLen at hn
  have hlen : b.length = n := by have := hr.1; rw [u8s_len] at this; exact this
  have Hlen := Lib.hid hlen
  clear hlen
  go_enter Tryz.func131, Tryz.ntmps131
  go_wp2_with fail
  go_loopw [5, 10] (fun c5 c10 wr => VDecR w b c5 c10 wr) (fun _ c10 _ => n - (intOf c10).toNat)
  case atStart => exact ⟨0, 0, rfl, rfl, by omega, by omega, by decide, rfl, rfl⟩
  case round =>
    obtain ⟨k, acc, rfl, rfl, hk, hk9, hacc, hv, rfl⟩ := hrel
    have Hacc := Lib.hid hacc
    have Hv := Lib.hid hv
    clear hacc hv
    have Hk := Lib.hid hk
    clear hk
    by_cases hlt : k < n
    · obtain ⟨bb, o, rfl, hcell⟩ := at_u8 hr hlt
      obtain ⟨x, hx⟩ : ∃ x, x = b.getD k 0 := ⟨_, rfl⟩
      obtain ⟨y, hy⟩ : ∃ y, y = x.toNat := ⟨_, rfl⟩
      rw [← hx, ← hy] at hcell
      have hy256 : y ≤ 255 := by have := x.toNat_lt; omega
      have Hd := Lib.hid (drop_at (b := b) (k := k) (by have := Hlen.out; omega))
      have Hx := Lib.hid hx
      have Hy := Lib.hid hy
      clear hx hy
      obtain ⟨z, hz⟩ : ∃ z, z = y % 128 := ⟨_, rfl⟩
      have a127 : bits .and .u8 (y : Int) 127 = (z : Int) := by rw [u8_and127 _ (by omega) (by omega)]; omega
      have hz127 : z ≤ 127 := by omega
      obtain ⟨acc', hacc'⟩ : ∃ q, q = acc + z * 128 ^ k := ⟨_, rfl⟩
      have Ha := Lib.hid hacc'
      have Hz := Lib.hid hz
      clear hz hacc'
      by_cases h9 : k = 9
      · have t9 : ((k : Int) == 9) = true := by simp [h9]
        have H9 := Lib.hid h9
        clear h9
        by_cases h1 : 1 < y
        · go_wp2_with fail
          go_ret3
          exact ⟨by rw [← Hv.out, Hd.out, vdecF_wide H9.out (by rw [← Hx.out, ← Hy.out]; exact h1)]; rfl, rfl⟩
        · by_cases h0 : y = 0
          · have t0 : ((y : Int) == 0) = true := by simp [h0]
            have H0 := Lib.hid h0
            have hk0 : 0 < k := by have := H9.out; omega
            clear h0
            go_wp2_with fail
            go_ret3
            exact ⟨by rw [← Hv.out, Hd.out, vdecF_long hk0 (by rw [← Hx.out, ← Hy.out]; exact H0.out)]; rfl, rfl⟩
          · have t0 : ((y : Int) == 0) = false := by simp; omega
            have hor := or_step k acc z hk9 Hacc.out hz127 (fun _ => by have := Hz.out; omega)
            rw [← Ha.out] at hor
            have H0 := Lib.hid h0
            clear h0
            go_wp2_with fail
            go_ret3
            exact ⟨by rw [← Hv.out, Hd.out, vdecF_ret (fun _ => by rw [← Hx.out, ← Hy.out]; omega) (by rw [← Hx.out, ← Hy.out]; omega) (fun h => absurd (by rw [Hy.out, Hx.out]; exact h) H0.out), ← Hx.out, ← Hy.out, ← Hz.out, ← Ha.out]; rfl, rfl⟩
      · have t9 : ((k : Int) == 9) = false := by simp; omega
        have H9 := Lib.hid h9
        have hk8 : k ≤ 8 := by omega
        clear h9
        have hor := or_step k acc z hk9 Hacc.out hz127 (fun h => absurd h H9.out)
        rw [← Ha.out] at hor
        by_cases h1 : 128 ≤ y
        · go_wp2_with fail
          go_roundw
          case rel =>
            refine ⟨k + 1, acc', rfl, by go_num, by have := Hlen.out; omega, by omega, ?_, ?_, rfl⟩
            · rw [Ha.out, Nat.pow_succ]
              have h2 : z * 128 ^ k ≤ 127 * 128 ^ k := Nat.mul_le_mul_right _ hz127
              have h3 := Hacc.out
              omega
            · rw [← Hv.out, Hd.out, vdecF_go H9.out (by rw [← Hx.out, ← Hy.out]; exact h1), ← Hx.out, ← Hy.out, ← Hz.out, ← Ha.out]
          case measure => simp [intOf]; omega
        · by_cases h0 : y = 0 ∧ 0 < k
          · obtain ⟨h0, hk0⟩ := h0
            have t0 : ((y : Int) == 0) = true := by simp [h0]
            have H0 := Lib.hid h0
            clear h0
            go_wp2_with fail
            go_ret3
            exact ⟨by rw [← Hv.out, Hd.out, vdecF_long hk0 (by rw [← Hx.out, ← Hy.out]; exact H0.out)]; rfl, rfl⟩
          · have H0 := Lib.hid h0
            clear h0
            have Hret : Hid (vdec b = (acc', k + 1, 0)) := Lib.hid (by
              rw [← Hv.out, Hd.out, vdecF_ret (fun h => absurd h H9.out) (by rw [← Hx.out, ← Hy.out]; omega) (fun h => by have := H0.out; rw [← Hx.out, ← Hy.out] at h; omega), ← Hx.out, ← Hy.out, ← Hz.out, ← Ha.out])
            by_cases h0 : y = 0
            · have t0 : ((y : Int) == 0) = true := by simp [h0]
              have hk0 : ¬ 0 < k := fun h => H0.out ⟨h0, h⟩
              have t1 : decide (0 < k) = false := by simpa using hk0
              clear h0
              go_wp2_with fail
              go_ret3
              exact ⟨by rw [Hret.out]; rfl, rfl⟩
            · have t0 : ((y : Int) == 0) = false := by simp; omega
              clear h0
              go_wp2_with fail
              go_ret3
              exact ⟨by rw [Hret.out]; rfl, rfl⟩
    · have hkn : k = n := by have := Hk.out; have := Hlen.out; omega
      have Hs : Hid (vdec b = (0, 0, 10)) := Lib.hid (by rw [← Hv.out, List.drop_of_length_le (by have := Hlen.out; omega)]; rfl)
      clear hkn
      go_wp2_with fail
      go_ret3
      exact ⟨by rw [Hs.out]; rfl, rfl⟩
end Go.Proofs.YtjajbbgebblalaaGreatDoor
