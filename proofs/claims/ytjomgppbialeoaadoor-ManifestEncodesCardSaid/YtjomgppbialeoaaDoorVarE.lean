/-
  The walk of the reference's Decode.
-/
/-
  The walk of the reference's Next.
-/
/-
  The walk of the reference's Decode of fields.
-/
import Derived.Test.YtjomgppbialeoaaDoorVarD
import Derived.Test.YtjomgppbialeoaaDoorFsC
import Derived.Test.YtjomgppbialeoaaDoorPanW
import Derived.Test.YtjomgppbialeoaaDoorCurW
namespace Go.Proofs.YtjomgppbialeoaaDoor
open Go.RowKit
set_option linter.unusedVariables false
set_option linter.unusedSimpArgs false
def dsum (b : List UInt8) : Nat → Nat
  | 0 => 0
  | k + 1 => dsum b k + (b.getD k 0).toNat % 128 * 128 ^ k
/-- The first k bytes have the highest bit, and k is at most 9. -/
def Lead (b : List UInt8) (k : Nat) : Prop := k ≤ b.length ∧ k ≤ 9 ∧ ∀ j, j < k → 128 ≤ (b.getD j 0).toNat
theorem dsum_lt (b : List UInt8) (k : Nat) : dsum b k < 128 ^ k := by
  induction k with
  | zero => simp [dsum]
  | succ k ih =>
    rw [dsum, Nat.pow_succ]
    have h2 : (b.getD k 0).toNat % 128 * 128 ^ k ≤ 127 * 128 ^ k := Nat.mul_le_mul_right _ (by omega)
    omega
theorem lead_dec {b : List UInt8} {k : Nat} (h : Lead b k) : vdecF (b.drop k) k (dsum b k) = vdec b := by
  obtain ⟨h1, h2, h3⟩ := h
  induction k with
  | zero => rfl
  | succ k ih =>
    have i := ih (by omega) (by omega) (fun j hj => h3 j (by omega))
    rw [← i, drop_at (show k < b.length by omega), vdecF_go (by omega) (h3 k (by omega))]
    rfl
theorem lead_short {b : List UInt8} {k : Nat} (h : Lead b k) (hk : k = b.length) : vdec b = (0, 0, 10) := by
  rw [← lead_dec h, List.drop_of_length_le (by omega)]; rfl
theorem lead_wide {b : List UInt8} {k : Nat} (h : Lead b k) (hk : k = 9) (hl : k < b.length) (hb : 1 < (b.getD 9 0).toNat) : vdec b = (0, 0, 12) := by
  rw [← lead_dec h, drop_at hl, vdecF_wide hk (by rw [hk]; exact hb)]
theorem lead_long {b : List UInt8} {k : Nat} (h : Lead b k) (hl : k < b.length) (hk : 0 < k) (hb : (b.getD k 0).toNat = 0) : vdec b = (0, 0, 11) := by
  rw [← lead_dec h, drop_at hl, vdecF_long hk hb]
theorem lead_ret {b : List UInt8} {k : Nat} (h : Lead b k) (hl : k < b.length) (h9 : k = 9 → (b.getD k 0).toNat ≤ 1) (hb : (b.getD k 0).toNat < 128) (h0 : (b.getD k 0).toNat = 0 → k = 0) : vdec b = (dsum b (k + 1), k + 1, 0) := by
  rw [← lead_dec h, drop_at hl, vdecF_ret h9 hb h0]; rfl
theorem dsum_bound {b : List UInt8} {k : Nat} (h : k ≤ 9) (h9 : k = 9 → (b.getD k 0).toNat ≤ 1) : dsum b (k + 1) ≤ 18446744073709551615 := by
  rcases Nat.lt_or_ge k 9 with h1 | h1
  · have := dsum_lt b (k + 1)
    have h2 : (128 : Nat) ^ (k + 1) ≤ 128 ^ 9 := Nat.pow_le_pow_right (by omega) (by omega)
    omega
  · have : k = 9 := by omega
    subst this
    have h2 := dsum_lt b 9
    have h3 := h9 rfl
    rw [dsum]
    have h4 : (b.getD 9 0).toNat % 128 * 128 ^ 9 ≤ 1 * 128 ^ 9 := Nat.mul_le_mul_right _ (by omega)
    omega
theorem top_step {b : List UInt8} {i N T : Nat} (h : dsum b (i + 1) + T * 128 ^ (i + 1) = N) : dsum b i + (T * 128 + (b.getD i 0).toNat % 128) * 128 ^ i = N ∧ T * 128 + (b.getD i 0).toNat % 128 ≤ N := by
  have e : dsum b i + (T * 128 + (b.getD i 0).toNat % 128) * 128 ^ i = N := by
    rw [← h, dsum, Nat.pow_succ, Nat.add_mul, Nat.mul_assoc, Nat.mul_comm 128 (128 ^ i)]
    omega
  refine ⟨e, ?_⟩
  have hp : 0 < 128 ^ i := Nat.pow_pos (by omega)
  have : (T * 128 + (b.getD i 0).toNat % 128) * 1 ≤ (T * 128 + (b.getD i 0).toNat % 128) * 128 ^ i := Nat.mul_le_mul_left _ hp
  omega
def REdR (W : World) (b : List UInt8) (c5 : Value) (wr : World) : Prop := ∃ k : Nat, c5 = .int .i64 k ∧ Lead b k ∧ W = wr
def REdT (W : World) (b : List UInt8) (N : Nat) (c6 c7 : Value) (wr : World) : Prop :=
  ∃ (i T : Nat) (x : Int), c7 = .int .i64 x ∧ x + 1 = (i : Int) ∧ c6 = .int .u64 T ∧ i ≤ N ∧ dsum b i + T * 128 ^ i = dsum b N ∧ W = wr
set_option maxRecDepth 100000 in
set_option maxHeartbeats 1000000 in
theorem rvdec_any (A : Option Addr) (n c : Nat) (b : List UInt8) (w : World) (hr : Rd w A n (u8s b)) (hn : n ≤ maxLen) :
    Calls Tryd.prog 39 #[.slice A n c] w fun e w' => e = DecT (vdec b) ∧ w = w' := by
  unfold maxLen at hn
  have hlen : b.length = n := by have := hr.1; rw [u8s_len] at this; exact this
  have Hlen := Lib.hid hlen
  clear hlen
  go_enter Tryd.func39, Tryd.ntmps39
  go_wp2_with fail
  go_loopw [5] (fun c5 wr => REdR w b c5 wr) (fun c5 _ => n - (intOf c5).toNat)
  case atStart => exact ⟨0, rfl, ⟨by omega, by omega, fun j h => by omega⟩, rfl⟩
  case round =>
    obtain ⟨k, rfl, hL, rfl⟩ := hrel
    have HL := Lib.hid hL
    have hk9 := hL.2.1
    have hkn : k ≤ n := by have := hL.1; have := Hlen.out; omega
    clear hL
    by_cases hlt : k < n
    · obtain ⟨bb, o, rfl, hcell⟩ := at_u8 hr hlt
      obtain ⟨y, hy⟩ : ∃ y, y = (b.getD k 0).toNat := ⟨_, rfl⟩
      rw [← hy] at hcell
      have hy256 : y ≤ 255 := by have := (b.getD k 0).toNat_lt; omega
      have Hy := Lib.hid hy
      clear hy
      have tkn : ((k : Int) == (n : Int)) = false := by simp; omega
      by_cases h9 : k < 9
      · have t9 : ((k : Int) == 9) = false := by simp; omega
        by_cases h1 : 128 ≤ y
        · go_wp2_with fail
          go_roundw
          case rel => exact ⟨k + 1, by go_num, ⟨by have := Hlen.out; omega, by omega, fun j hj => by
            by_cases h : j = k
            · subst h; rw [← Hy.out]; exact h1
            · exact HL.out.2.2 j (by omega)⟩, rfl⟩
          case measure => simp [intOf]; omega
        · by_cases h0 : y = 0 ∧ 0 < k
          · obtain ⟨h0, hk0⟩ := h0
            have t0 : ((y : Int) == 0) = true := by simp [h0]
            have H0 := Lib.hid h0
            clear h0
            go_wp2_with fail
            go_ret3
            exact ⟨by rw [lead_long HL.out (by have := Hlen.out; omega) hk0 (by rw [← Hy.out]; exact H0.out)]; rfl, rfl⟩
          · have HD := Lib.hid (dsum_bound (b := b) hk9 (fun h => by omega))
            have Hret := Lib.hid (lead_ret HL.out (by have := Hlen.out; omega) (fun h => by omega) (by rw [← Hy.out]; omega) (fun h => by rw [← Hy.out] at h; omega))
            have H0 := Lib.hid h0
            clear h0
            by_cases hk0 : 0 < k
            · have t0 : ((y : Int) == 0) = false := by simp; exact fun h => H0.out ⟨h, hk0⟩
              go_wp2_with fail
              go_loopw [6, 7] (fun c6 c7 wr => REdT w b (k + 1) c6 c7 wr) (fun _ c7 _ => (intOf c7 + 1).toNat)
              case atStart => exact ⟨k + 1, 0, _, rfl, by omega, rfl, by omega, by simp, rfl⟩
              case round =>
                obtain ⟨i, T, x, rfl, hx, rfl, hi, hs, rfl⟩ := hrel
                by_cases hi0 : 0 < i
                · obtain ⟨j, rfl⟩ : ∃ j, i = j + 1 := ⟨i - 1, by omega⟩
                  obtain rfl : x = (j : Int) := by omega
                  clear hx
                  obtain ⟨bb, o, hA, hcell2⟩ := at_u8 hr (show j < n by omega)
                  cases hA
                  obtain ⟨hs1, hs2⟩ := top_step hs
                  obtain ⟨y2, hy2⟩ : ∃ y, y = (b.getD j 0).toNat := ⟨_, rfl⟩
                  rw [← hy2] at hcell2 hs1 hs2
                  have hy3 : y2 ≤ 255 := by have := (b.getD j 0).toNat_lt; omega
                  have hT : T * 128 + y2 % 128 ≤ 18446744073709551615 := Nat.le_trans hs2 HD.out
                  have Hs := Lib.hid hs1
                  clear hs hs1 hs2 hy2
                  go_wp2_with fail
                  go_roundw
                  case rel => exact ⟨j, T * 128 + y2 % 128, _, rfl, by omega, by go_num, by omega, Hs.out, rfl⟩
                  case measure => simp [intOf]
                · obtain rfl : i = 0 := by omega
                  obtain rfl : x = -1 := by omega
                  have hT : T = dsum b (k + 1) := by rw [← hs]; simp [dsum]
                  have HT := Lib.hid hT
                  clear hs hT hx
                  go_wp2_with fail
                  go_ret3
                  exact ⟨by rw [Hret.out, HT.out]; rfl, rfl⟩
            · have tk : decide (0 < k) = false := by simpa using hk0
              go_wp2_with fail
              go_loopw [6, 7] (fun c6 c7 wr => REdT w b (k + 1) c6 c7 wr) (fun _ c7 _ => (intOf c7 + 1).toNat)
              case atStart => exact ⟨k + 1, 0, _, rfl, by omega, rfl, by omega, by simp, rfl⟩
              case round =>
                obtain ⟨i, T, x, rfl, hx, rfl, hi, hs, rfl⟩ := hrel
                by_cases hi0 : 0 < i
                · obtain ⟨j, rfl⟩ : ∃ j, i = j + 1 := ⟨i - 1, by omega⟩
                  obtain rfl : x = (j : Int) := by omega
                  clear hx
                  obtain ⟨bb, o, hA, hcell2⟩ := at_u8 hr (show j < n by omega)
                  cases hA
                  obtain ⟨hs1, hs2⟩ := top_step hs
                  obtain ⟨y2, hy2⟩ : ∃ y, y = (b.getD j 0).toNat := ⟨_, rfl⟩
                  rw [← hy2] at hcell2 hs1 hs2
                  have hy3 : y2 ≤ 255 := by have := (b.getD j 0).toNat_lt; omega
                  have hT : T * 128 + y2 % 128 ≤ 18446744073709551615 := Nat.le_trans hs2 HD.out
                  have Hs := Lib.hid hs1
                  clear hs hs1 hs2 hy2
                  go_wp2_with fail
                  go_roundw
                  case rel => exact ⟨j, T * 128 + y2 % 128, _, rfl, by omega, by go_num, by omega, Hs.out, rfl⟩
                  case measure => simp [intOf]
                · obtain rfl : i = 0 := by omega
                  obtain rfl : x = -1 := by omega
                  have hT : T = dsum b (k + 1) := by rw [← hs]; simp [dsum]
                  have HT := Lib.hid hT
                  clear hs hT hx
                  go_wp2_with fail
                  go_ret3
                  exact ⟨by rw [Hret.out, HT.out]; rfl, rfl⟩
      · have H9 : Hid (k = 9) := Lib.hid (by omega)
        have t9 : ((k : Int) == 9) = true := by simp; omega
        have hcell9 : w.cell? ⟨bb, o + 9, none⟩ = some (.int .u8 (y : Nat)) := by have := hcell; rw [H9.out] at this; exact this
        by_cases h1 : 1 < y
        · go_wp2_with fail
          go_ret3
          exact ⟨by rw [lead_wide HL.out H9.out (by have := Hlen.out; omega) (by have := Hy.out; rw [H9.out] at this; rw [← this]; exact h1)]; rfl, rfl⟩
        · have hk0 : 0 < k := by omega
          by_cases h0 : y = 0
          · have t0 : ((y : Int) == 0) = true := by simp [h0]
            have H0 := Lib.hid h0
            clear h0
            go_wp2_with fail
            go_ret3
            exact ⟨by rw [lead_long HL.out (by have := Hlen.out; omega) hk0 (by rw [← Hy.out]; exact H0.out)]; rfl, rfl⟩
          · have HD := Lib.hid (dsum_bound (b := b) hk9 (fun h => by rw [← Hy.out]; omega))
            have Hret := Lib.hid (lead_ret HL.out (by have := Hlen.out; omega) (fun h => by rw [← Hy.out]; omega) (by rw [← Hy.out]; omega) (fun h => by rw [← Hy.out] at h; omega))
            have t0 : ((y : Int) == 0) = false := by simp; omega
            clear h0
            go_wp2_with fail
            go_loopw [6, 7] (fun c6 c7 wr => REdT w b (k + 1) c6 c7 wr) (fun _ c7 _ => (intOf c7 + 1).toNat)
            case atStart => exact ⟨k + 1, 0, _, rfl, by omega, rfl, by omega, by simp, rfl⟩
            case round =>
              obtain ⟨i, T, x, rfl, hx, rfl, hi, hs, rfl⟩ := hrel
              by_cases hi0 : 0 < i
              · obtain ⟨j, rfl⟩ : ∃ j, i = j + 1 := ⟨i - 1, by omega⟩
                obtain rfl : x = (j : Int) := by omega
                clear hx
                obtain ⟨bb, o, hA, hcell2⟩ := at_u8 hr (show j < n by omega)
                cases hA
                obtain ⟨hs1, hs2⟩ := top_step hs
                obtain ⟨y2, hy2⟩ : ∃ y, y = (b.getD j 0).toNat := ⟨_, rfl⟩
                rw [← hy2] at hcell2 hs1 hs2
                have hy3 : y2 ≤ 255 := by have := (b.getD j 0).toNat_lt; omega
                have hT : T * 128 + y2 % 128 ≤ 18446744073709551615 := Nat.le_trans hs2 HD.out
                have Hs := Lib.hid hs1
                clear hs hs1 hs2 hy2
                go_wp2_with fail
                go_roundw
                case rel => exact ⟨j, T * 128 + y2 % 128, _, rfl, by omega, by go_num, by omega, Hs.out, rfl⟩
                case measure => simp [intOf]
              · obtain rfl : i = 0 := by omega
                obtain rfl : x = -1 := by omega
                have hT : T = dsum b (k + 1) := by rw [← hs]; simp [dsum]
                have HT := Lib.hid hT
                clear hs hT hx
                go_wp2_with fail
                go_ret3
                exact ⟨by rw [Hret.out, HT.out]; rfl, rfl⟩
    · obtain rfl : k = n := by omega
      go_wp2_with fail
      go_ret3
      exact ⟨by rw [lead_short HL.out Hlen.out.symm]; rfl, rfl⟩
end Go.Proofs.YtjomgppbialeoaaDoor

namespace Go.Proofs.YtjomgppbialeoaaDoor
open Go.RowKit
set_option linter.unusedVariables false
set_option linter.unusedSimpArgs false
theorem results_ctt {P : Program} {w : World} {fn : Func} {p q u : Tmp} {t1 : TypeId} {a1 : Addr} {v1 : Value} (h : fn.results = #[.cell p t1, .tmp u, .tmp q]) (tmps : Array Value) (x y : Value) (hp : tmps.getD p undef = .pointer (some a1)) (hu : tmps.getD u undef = x) (hq : tmps.getD q undef = y)
    (h1 : (loadVar t1 a1).run P w = .ok v1 w) : (results fn tmps).run P w = .ok (.tuple #[v1, x, y]) w := by
  have hp' : tmps[p]?.getD undef = .pointer (some a1) := by simpa using hp
  have hq' : tmps[q]?.getD undef = y := by simpa using hq
  have hu' : tmps[u]?.getD undef = x := by simpa using hu
  simp [results, h, hp', hq', hu', asAddr, h1]
def NextPost (w : World) (r : Fld × Nat × Nat) (e : Ending) (w' : World) : Prop :=
  ∃ A c, e = .returned (.tuple #[.agg (fcells r.1 A c), .int .i64 (r.2.1 : Nat), .int .i64 (r.2.2 : Nat)]) ∧ Ext w w' ∧ w'.ownsRow w.heap.size 5 1 (.slice A r.1.bytes.length c) r.1.bytes.length (u8s r.1.bytes)
end Go.Proofs.YtjomgppbialeoaaDoor

namespace Go.Proofs.YtjomgppbialeoaaDoor
open Go.RowKit
set_option linter.unusedVariables false
set_option linter.unusedSimpArgs false
end Go.Proofs.YtjomgppbialeoaaDoor
