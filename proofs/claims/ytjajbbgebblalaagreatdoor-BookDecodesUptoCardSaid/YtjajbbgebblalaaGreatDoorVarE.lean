/-
  The walk of the reference's Decode.
-/
/-
  The walk of the reference's Next.
-/
/-
  The walk of the reference's Decode of fields.
-/
import Derived.Test.YtjajbbgebblalaaGreatDoorShrT
import Derived.Test.YtjajbbgebblalaaGreatDoorVarW
import Derived.Test.YtjajbbgebblalaaGreatDoorFsW
import Derived.Test.YtjajbbgebblalaaGreatDoorPanW
import Derived.Test.YtjajbbgebblalaaGreatDoorCurW
namespace Go.Proofs.YtjajbbgebblalaaGreatDoor
open Go.RowKit
set_option linter.unusedVariables false
set_option linter.unusedSimpArgs false
def dsum (b : List UInt8) : Nat → Nat
  | 0 => 0
  | k + 1 => dsum b k + (b.getD k 0).toNat % 128 * 128 ^ k
/-- The first k bytes have the highest bit, and k is at most 9. -/
def Lead (b : List UInt8) (k : Nat) : Prop := k ≤ b.length ∧ k ≤ 9 ∧ ∀ j, j < k → 128 ≤ (b.getD j 0).toNat
theorem dsum_lt (b : List UInt8) (k : Nat) : dsum b k < 128 ^ k := by
  induction k with
  | zero => simp [dsum]
  | succ k ih =>
    rw [dsum, Nat.pow_succ]
    have h2 : (b.getD k 0).toNat % 128 * 128 ^ k ≤ 127 * 128 ^ k := Nat.mul_le_mul_right _ (by omega)
    omega
theorem lead_dec {b : List UInt8} {k : Nat} (h : Lead b k) : vdecF (b.drop k) k (dsum b k) = vdec b := by
  obtain ⟨h1, h2, h3⟩ := h
  induction k with
  | zero => rfl
  | succ k ih =>
    have i := ih (by omega) (by omega) (fun j hj => h3 j (by omega))
    rw [← i, drop_at (show k < b.length by omega), vdecF_go (by omega) (h3 k (by omega))]
    rfl
theorem lead_short {b : List UInt8} {k : Nat} (h : Lead b k) (hk : k = b.length) : vdec b = (0, 0, 10) := by
  rw [← lead_dec h, List.drop_of_length_le (by omega)]; rfl
theorem lead_wide {b : List UInt8} {k : Nat} (h : Lead b k) (hk : k = 9) (hl : k < b.length) (hb : 1 < (b.getD 9 0).toNat) : vdec b = (0, 0, 12) := by
  rw [← lead_dec h, drop_at hl, vdecF_wide hk (by rw [hk]; exact hb)]
theorem lead_long {b : List UInt8} {k : Nat} (h : Lead b k) (hl : k < b.length) (hk : 0 < k) (hb : (b.getD k 0).toNat = 0) : vdec b = (0, 0, 11) := by
  rw [← lead_dec h, drop_at hl, vdecF_long hk hb]
theorem lead_ret {b : List UInt8} {k : Nat} (h : Lead b k) (hl : k < b.length) (h9 : k = 9 → (b.getD k 0).toNat ≤ 1) (hb : (b.getD k 0).toNat < 128) (h0 : (b.getD k 0).toNat = 0 → k = 0) : vdec b = (dsum b (k + 1), k + 1, 0) := by
  rw [← lead_dec h, drop_at hl, vdecF_ret h9 hb h0]; rfl
theorem dsum_bound {b : List UInt8} {k : Nat} (h : k ≤ 9) (h9 : k = 9 → (b.getD k 0).toNat ≤ 1) : dsum b (k + 1) ≤ 18446744073709551615 := by
  rcases Nat.lt_or_ge k 9 with h1 | h1
  · have := dsum_lt b (k + 1)
    have h2 : (128 : Nat) ^ (k + 1) ≤ 128 ^ 9 := Nat.pow_le_pow_right (by omega) (by omega)
    omega
  · have : k = 9 := by omega
    subst this
    have h2 := dsum_lt b 9
    have h3 := h9 rfl
    rw [dsum]
    have h4 : (b.getD 9 0).toNat % 128 * 128 ^ 9 ≤ 1 * 128 ^ 9 := Nat.mul_le_mul_right _ (by omega)
    omega
theorem top_step {b : List UInt8} {i N T : Nat} (h : dsum b (i + 1) + T * 128 ^ (i + 1) = N) : dsum b i + (T * 128 + (b.getD i 0).toNat % 128) * 128 ^ i = N ∧ T * 128 + (b.getD i 0).toNat % 128 ≤ N := by
  have e : dsum b i + (T * 128 + (b.getD i 0).toNat % 128) * 128 ^ i = N := by
    rw [← h, dsum, Nat.pow_succ, Nat.add_mul, Nat.mul_assoc, Nat.mul_comm 128 (128 ^ i)]
    omega
  refine ⟨e, ?_⟩
  have hp : 0 < 128 ^ i := Nat.pow_pos (by omega)
  have : (T * 128 + (b.getD i 0).toNat % 128) * 1 ≤ (T * 128 + (b.getD i 0).toNat % 128) * 128 ^ i := Nat.mul_le_mul_left _ hp
  omega
def REdR (W : World) (b : List UInt8) (c5 : Value) (wr : World) : Prop := ∃ k : Nat, c5 = .int .i64 k ∧ Lead b k ∧ W = wr
def REdT (W : World) (b : List UInt8) (N : Nat) (c6 c7 : Value) (wr : World) : Prop :=
  ∃ (i T : Nat) (x : Int), c7 = .int .i64 x ∧ x + 1 = (i : Int) ∧ c6 = .int .u64 T ∧ i ≤ N ∧ dsum b i + T * 128 ^ i = dsum b N ∧ W = wr
set_option maxRecDepth 100000 in
set_option maxHeartbeats 1000000 in
theorem rvdec_any (A : Option Addr) (n c : Nat) (b : List UInt8) (w : World) (hr : Rd w A n (u8s b)) (hn : n ≤ maxLen) :
    Calls Tryz.prog 83 #[.slice A n c] w fun e w' => e = DecT (vdec b) ∧ w = w' := by
  unfold maxLen at hn
  have hlen : b.length = n := by have := hr.1; rw [u8s_len] at this; exact this
  have Hlen := Lib.hid hlen
  clear hlen
  go_enter Tryz.func83, Tryz.ntmps83
  go_wp2_with fail
  go_loopw [5] (fun c5 wr => REdR w b c5 wr) (fun c5 _ => n - (intOf c5).toNat)
  case atStart => exact ⟨0, rfl, ⟨by omega, by omega, fun j h => by omega⟩, rfl⟩
  case round =>
    obtain ⟨k, rfl, hL, rfl⟩ := hrel
    have HL := Lib.hid hL
    have hk9 := hL.2.1
    have hkn : k ≤ n := by have := hL.1; have := Hlen.out; omega
    clear hL
    by_cases hlt : k < n
    · obtain ⟨bb, o, rfl, hcell⟩ := at_u8 hr hlt
      obtain ⟨y, hy⟩ : ∃ y, y = (b.getD k 0).toNat := ⟨_, rfl⟩
      rw [← hy] at hcell
      have hy256 : y ≤ 255 := by have := (b.getD k 0).toNat_lt; omega
      have Hy := Lib.hid hy
      clear hy
      have tkn : ((k : Int) == (n : Int)) = false := by simp; omega
      by_cases h9 : k < 9
      · have t9 : ((k : Int) == 9) = false := by simp; omega
        by_cases h1 : 128 ≤ y
        · go_wp2_with fail
          go_roundw
          case rel => exact ⟨k + 1, by go_num, ⟨by have := Hlen.out; omega, by omega, fun j hj => by
            by_cases h : j = k
            · subst h; rw [← Hy.out]; exact h1
            · exact HL.out.2.2 j (by omega)⟩, rfl⟩
          case measure => simp [intOf]; omega
        · by_cases h0 : y = 0 ∧ 0 < k
          · obtain ⟨h0, hk0⟩ := h0
            have t0 : ((y : Int) == 0) = true := by simp [h0]
            have H0 := Lib.hid h0
            clear h0
            go_wp2_with fail
            go_ret3
            exact ⟨by rw [lead_long HL.out (by have := Hlen.out; omega) hk0 (by rw [← Hy.out]; exact H0.out)]; rfl, rfl⟩
          · have HD := Lib.hid (dsum_bound (b := b) hk9 (fun h => by omega))
            have Hret := Lib.hid (lead_ret HL.out (by have := Hlen.out; omega) (fun h => by omega) (by rw [← Hy.out]; omega) (fun h => by rw [← Hy.out] at h; omega))
            have H0 := Lib.hid h0
            clear h0
            by_cases hk0 : 0 < k
            · have t0 : ((y : Int) == 0) = false := by simp; exact fun h => H0.out ⟨h, hk0⟩
              go_wp2_with fail
              go_loopw [6, 7] (fun c6 c7 wr => REdT w b (k + 1) c6 c7 wr) (fun _ c7 _ => (intOf c7 + 1).toNat)
              case atStart => exact ⟨k + 1, 0, _, rfl, by omega, rfl, by omega, by simp, rfl⟩
              case round =>
                obtain ⟨i, T, x, rfl, hx, rfl, hi, hs, rfl⟩ := hrel
                by_cases hi0 : 0 < i
                · obtain ⟨j, rfl⟩ : ∃ j, i = j + 1 := ⟨i - 1, by omega⟩
                  obtain rfl : x = (j : Int) := by omega
                  clear hx
                  obtain ⟨bb, o, hA, hcell2⟩ := at_u8 hr (show j < n by omega)
                  cases hA
                  obtain ⟨hs1, hs2⟩ := top_step hs
                  obtain ⟨y2, hy2⟩ : ∃ y, y = (b.getD j 0).toNat := ⟨_, rfl⟩
                  rw [← hy2] at hcell2 hs1 hs2
                  have hy3 : y2 ≤ 255 := by have := (b.getD j 0).toNat_lt; omega
                  have hT : T * 128 + y2 % 128 ≤ 18446744073709551615 := Nat.le_trans hs2 HD.out
                  have Hs := Lib.hid hs1
                  clear hs hs1 hs2 hy2
                  go_wp2_with fail
                  go_roundw
                  case rel => exact ⟨j, T * 128 + y2 % 128, _, rfl, by omega, by go_num, by omega, Hs.out, rfl⟩
                  case measure => simp [intOf]
                · obtain rfl : i = 0 := by omega
                  obtain rfl : x = -1 := by omega
                  have hT : T = dsum b (k + 1) := by rw [← hs]; simp [dsum]
                  have HT := Lib.hid hT
                  clear hs hT hx
                  go_wp2_with fail
                  go_ret3
                  exact ⟨by rw [Hret.out, HT.out]; rfl, rfl⟩
            · have tk : decide (0 < k) = false := by simpa using hk0
              go_wp2_with fail
              go_loopw [6, 7] (fun c6 c7 wr => REdT w b (k + 1) c6 c7 wr) (fun _ c7 _ => (intOf c7 + 1).toNat)
              case atStart => exact ⟨k + 1, 0, _, rfl, by omega, rfl, by omega, by simp, rfl⟩
              case round =>
                obtain ⟨i, T, x, rfl, hx, rfl, hi, hs, rfl⟩ := hrel
                by_cases hi0 : 0 < i
                · obtain ⟨j, rfl⟩ : ∃ j, i = j + 1 := ⟨i - 1, by omega⟩
                  obtain rfl : x = (j : Int) := by omega
                  clear hx
                  obtain ⟨bb, o, hA, hcell2⟩ := at_u8 hr (show j < n by omega)
                  cases hA
                  obtain ⟨hs1, hs2⟩ := top_step hs
                  obtain ⟨y2, hy2⟩ : ∃ y, y = (b.getD j 0).toNat := ⟨_, rfl⟩
                  rw [← hy2] at hcell2 hs1 hs2
                  have hy3 : y2 ≤ 255 := by have := (b.getD j 0).toNat_lt; omega
                  have hT : T * 128 + y2 % 128 ≤ 18446744073709551615 := Nat.le_trans hs2 HD.out
                  have Hs := Lib.hid hs1
                  clear hs hs1 hs2 hy2
                  go_wp2_with fail
                  go_roundw
                  case rel => exact ⟨j, T * 128 + y2 % 128, _, rfl, by omega, by go_num, by omega, Hs.out, rfl⟩
                  case measure => simp [intOf]
                · obtain rfl : i = 0 := by omega
                  obtain rfl : x = -1 := by omega
                  have hT : T = dsum b (k + 1) := by rw [← hs]; simp [dsum]
                  have HT := Lib.hid hT
                  clear hs hT hx
                  go_wp2_with fail
                  go_ret3
                  exact ⟨by rw [Hret.out, HT.out]; rfl, rfl⟩
      · have H9 : Hid (k = 9) := Lib.hid (by omega)
        have t9 : ((k : Int) == 9) = true := by simp; omega
        have hcell9 : w.cell? ⟨bb, o + 9, none⟩ = some (.int .u8 (y : Nat)) := by have := hcell; rw [H9.out] at this; exact this
        by_cases h1 : 1 < y
        · go_wp2_with fail
          go_ret3
          exact ⟨by rw [lead_wide HL.out H9.out (by have := Hlen.out; omega) (by have := Hy.out; rw [H9.out] at this; rw [← this]; exact h1)]; rfl, rfl⟩
        · have hk0 : 0 < k := by omega
          by_cases h0 : y = 0
          · have t0 : ((y : Int) == 0) = true := by simp [h0]
            have H0 := Lib.hid h0
            clear h0
            go_wp2_with fail
            go_ret3
            exact ⟨by rw [lead_long HL.out (by have := Hlen.out; omega) hk0 (by rw [← Hy.out]; exact H0.out)]; rfl, rfl⟩
          · have HD := Lib.hid (dsum_bound (b := b) hk9 (fun h => by rw [← Hy.out]; omega))
            have Hret := Lib.hid (lead_ret HL.out (by have := Hlen.out; omega) (fun h => by rw [← Hy.out]; omega) (by rw [← Hy.out]; omega) (fun h => by rw [← Hy.out] at h; omega))
            have t0 : ((y : Int) == 0) = false := by simp; omega
            clear h0
            go_wp2_with fail
            go_loopw [6, 7] (fun c6 c7 wr => REdT w b (k + 1) c6 c7 wr) (fun _ c7 _ => (intOf c7 + 1).toNat)
            case atStart => exact ⟨k + 1, 0, _, rfl, by omega, rfl, by omega, by simp, rfl⟩
            case round =>
              obtain ⟨i, T, x, rfl, hx, rfl, hi, hs, rfl⟩ := hrel
              by_cases hi0 : 0 < i
              · obtain ⟨j, rfl⟩ : ∃ j, i = j + 1 := ⟨i - 1, by omega⟩
                obtain rfl : x = (j : Int) := by omega
                clear hx
                obtain ⟨bb, o, hA, hcell2⟩ := at_u8 hr (show j < n by omega)
                cases hA
                obtain ⟨hs1, hs2⟩ := top_step hs
                obtain ⟨y2, hy2⟩ : ∃ y, y = (b.getD j 0).toNat := ⟨_, rfl⟩
                rw [← hy2] at hcell2 hs1 hs2
                have hy3 : y2 ≤ 255 := by have := (b.getD j 0).toNat_lt; omega
                have hT : T * 128 + y2 % 128 ≤ 18446744073709551615 := Nat.le_trans hs2 HD.out
                have Hs := Lib.hid hs1
                clear hs hs1 hs2 hy2
                go_wp2_with fail
                go_roundw
                case rel => exact ⟨j, T * 128 + y2 % 128, _, rfl, by omega, by go_num, by omega, Hs.out, rfl⟩
                case measure => simp [intOf]
              · obtain rfl : i = 0 := by omega
                obtain rfl : x = -1 := by omega
                have hT : T = dsum b (k + 1) := by rw [← hs]; simp [dsum]
                have HT := Lib.hid hT
                clear hs hT hx
                go_wp2_with fail
                go_ret3
                exact ⟨by rw [Hret.out, HT.out]; rfl, rfl⟩
    · obtain rfl : k = n := by omega
      go_wp2_with fail
      go_ret3
      exact ⟨by rw [lead_short HL.out Hlen.out.symm]; rfl, rfl⟩
end Go.Proofs.YtjajbbgebblalaaGreatDoor

namespace Go.Proofs.YtjajbbgebblalaaGreatDoor
open Go.RowKit
set_option linter.unusedVariables false
set_option linter.unusedSimpArgs false
theorem results_ctt {P : Program} {w : World} {fn : Func} {p q u : Tmp} {t1 : TypeId} {a1 : Addr} {v1 : Value} (h : fn.results = #[.cell p t1, .tmp u, .tmp q]) (tmps : Array Value) (x y : Value) (hp : tmps.getD p undef = .pointer (some a1)) (hu : tmps.getD u undef = x) (hq : tmps.getD q undef = y)
    (h1 : (loadVar t1 a1).run P w = .ok v1 w) : (results fn tmps).run P w = .ok (.tuple #[v1, x, y]) w := by
  have hp' : tmps[p]?.getD undef = .pointer (some a1) := by simpa using hp
  have hq' : tmps[q]?.getD undef = y := by simpa using hq
  have hu' : tmps[u]?.getD undef = x := by simpa using hu
  simp [results, h, hp', hq', hu', asAddr, h1]
def NextPost (w : World) (r : Fld × Nat × Nat) (e : Ending) (w' : World) : Prop :=
  ∃ A c, e = .returned (.tuple #[.agg (fcells r.1 A c), .int .i64 (r.2.1 : Nat), .int .i64 (r.2.2 : Nat)]) ∧ Ext w w' ∧ w'.ownsRow w.heap.size 5 1 (.slice A r.1.bytes.length c) r.1.bytes.length (u8s r.1.bytes)
set_option maxRecDepth 100000 in
set_option maxHeartbeats 4000000 in
theorem next_any (A : Option Addr) (n c : Nat) (last : Int) (l : List UInt8) (w : World) (hr : Rd w A n (u8s l)) (hnc : n ≤ c) (hn : n ≤ 1024) (hlo : 0 ≤ last) (hhi : last ≤ 31) :
    Calls Tryz.prog 165 #[.slice A n c, .int .i64 last] w (NextPost w (next l last)) := by
  have hll : l.length = n := by have := hr.1; rw [u8s_len] at this; exact this
  obtain ⟨⟨v, k, e⟩, hk⟩ : ∃ x, x = vdec l := ⟨_, rfl⟩
  have K1 : Hid (∀ w', Ext w w' → Calls Tryz.prog 83 #[.slice A n c] w' fun e' w'' => e' = .returned (.tuple #[.int .u64 (v : Nat), .int .i64 (k : Nat), .int .i64 (e : Nat)]) ∧ w' = w'') :=
    Lib.hid fun w' hx => by have := rvdec_any A n c l w' (hr.ext hx) (by simp only [maxLen]; omega); rw [← hk] at this; exact this
  have HX := Lib.hid (show Ext w ((w.alloc (.cells #[.int .i64 0, .bool false, .int .u64 0, .slice none 0 0] 210)).alloc (.cells #[.int .i64 0, .bool false, .int .u64 0, .slice none 0 0] 210)) from exA)
  obtain ⟨V, hV⟩ : ∃ V, V = next l last := ⟨_, rfl⟩
  rw [← hV]
  unfold next at hV
  rw [← hk] at hV
  dsimp only at hV
  by_cases he : e = 0
  · subst he
    rw [if_neg (by simp)] at hV
    by_cases h263 : v < 2 ∨ 63 < v
    · rw [if_pos h263] at hV
      have HV := Lib.hid hV
      have Hv : Hid (v ≤ 18446744073709551615) := Lib.hid (by obtain ⟨_, _, _, h⟩ := vdec_inv hk.symm; omega)
      clear hV hk hr hll
      by_cases h2 : v < 2
      · clear h263
        go_enter Tryz.func165, Tryz.ntmps165
        go_wp2_with (go_at_call 83; go_must (with_reducible refine (K1.out _ HX.out).mono ?_); rintro e w1 ⟨rfl, rfl⟩)
        refine bodyPost_ret (v := .tuple #[.agg #[.int .i64 0, .bool false, .int .u64 0, .slice none 0 0], .int .i64 0, .int .i64 (20 : Nat)]) (results_ctt rfl _ _ _ rfl rfl rfl (run_loadVar_blk (cs := #[.int .i64 0, .bool false, .int .u64 0, .slice none 0 0]) (n := 4) (BlkA (BlkN rfl)) fld_wide rfl)) rfl ?_
        unfold NextPost
        rw [HV.out]
        exact ⟨none, 0, rfl, exA, World.ownsRow_nil _ _ _ _⟩
      · have h63 : 63 < v := by omega
        clear h263
        go_enter Tryz.func165, Tryz.ntmps165
        go_wp2_with (go_at_call 83; go_must (with_reducible refine (K1.out _ HX.out).mono ?_); rintro e w1 ⟨rfl, rfl⟩)
        refine bodyPost_ret (v := .tuple #[.agg #[.int .i64 0, .bool false, .int .u64 0, .slice none 0 0], .int .i64 0, .int .i64 (20 : Nat)]) (results_ctt rfl _ _ _ rfl rfl rfl (run_loadVar_blk (cs := #[.int .i64 0, .bool false, .int .u64 0, .slice none 0 0]) (n := 4) (BlkA (BlkN rfl)) fld_wide rfl)) rfl ?_
        unfold NextPost
        rw [HV.out]
        exact ⟨none, 0, rfl, exA, World.ownsRow_nil _ _ _ _⟩
    rw [if_neg h263] at hV
    obtain ⟨T, hT⟩ : ∃ T, T = v / 2 := ⟨_, rfl⟩
    have dT : (v : Int) / 2 = (T : Int) := by omega
    have hT31 : T ≤ 31 := by omega
    have hT1 : 1 ≤ T := by omega
    have h63 : v ≤ 63 := by omega
    have h2 : 2 ≤ v := by omega
    rw [← hT] at hV
    have hkn : k ≤ n := by
      obtain ⟨r, h1, h2, _⟩ := vdec_inv hk.symm
      have := congrArg List.length h1
      simp at this
      omega
    by_cases hl : (T : Int) ≤ last
    · rw [if_pos hl] at hV
      have HV := Lib.hid hV
      clear hV hk hr hll hT h263
      go_enter Tryz.func165, Tryz.ntmps165
      go_wp2_with (go_at_call 83; go_must (with_reducible refine (K1.out _ HX.out).mono ?_); rintro e w1 ⟨rfl, rfl⟩)
      refine bodyPost_ret (v := .tuple #[.agg #[.int .i64 0, .bool false, .int .u64 0, .slice none 0 0], .int .i64 0, .int .i64 (21 : Nat)]) (results_ctt rfl _ _ _ rfl rfl rfl (run_loadVar_blk (cs := #[.int .i64 0, .bool false, .int .u64 0, .slice none 0 0]) (n := 4) (BlkA (BlkN rfl)) fld_wide rfl)) rfl ?_
      unfold NextPost
      rw [HV.out]
      exact ⟨none, 0, rfl, exA, World.ownsRow_nil _ _ _ _⟩
    rw [if_neg hl] at hV
    obtain ⟨A', hsl, hrd⟩ := slice_lo A n c k hkn hnc
    obtain ⟨⟨u, k2, e2⟩, hu⟩ : ∃ x, x = vdec (l.drop k) := ⟨_, rfl⟩
    rw [← hu] at hV
    dsimp only at hV
    have K2 : Hid (∀ w', Ext w w' → Calls Tryz.prog 83 #[.slice A' (n - k) (c - k)] w' fun e' w'' => e' = .returned (.tuple #[.int .u64 (u : Nat), .int .i64 (k2 : Nat), .int .i64 (e2 : Nat)]) ∧ w' = w'') :=
      Lib.hid fun w' hx => by have := rvdec_any A' (n - k) (c - k) (l.drop k) w' (hrd w' l (hr.ext hx)) (by simp only [maxLen]; omega); rw [← hu] at this; exact this
    by_cases he2 : e2 = 0
    · subst he2
      rw [if_neg (by simp)] at hV
      have Hv : Hid (u ≤ 18446744073709551615) := Lib.hid (by obtain ⟨_, _, _, h⟩ := vdec_inv hu.symm; omega)
      by_cases hu0 : u = 0
      · rw [if_pos hu0] at hV
        have HV := Lib.hid hV
        have tu : ((u : Int) == 0) = true := by simp [hu0]
        clear hV hk hr hll hT h263 hu hu0 hrd
        go_enter Tryz.func165, Tryz.ntmps165
        go_wp2_with (first
          | (go_at_call 83; (with_reducible refine (K1.out _ HX.out).mono ?_); rintro e w1 ⟨rfl, rfl⟩)
          | (go_at_call 83; go_must (with_reducible refine (K2.out _ HX.out).mono ?_); rintro e w1 ⟨rfl, rfl⟩))
        refine bodyPost_ret (v := .tuple #[.agg #[.int .i64 0, .bool false, .int .u64 0, .slice none 0 0], .int .i64 0, .int .i64 (22 : Nat)]) (results_ctt rfl _ _ _ rfl rfl rfl (run_loadVar_blk (cs := #[.int .i64 0, .bool false, .int .u64 0, .slice none 0 0]) (n := 4) (BlkA (BlkN rfl)) fld_wide rfl)) rfl ?_
        unfold NextPost
        rw [HV.out]
        exact ⟨none, 0, rfl, exA, World.ownsRow_nil _ _ _ _⟩
      rw [if_neg hu0] at hV
      have tu : ((u : Int) == 0) = false := by simp; exact hu0
      have hk2 : k + k2 ≤ n := by
        obtain ⟨r, h1, h2, _⟩ := vdec_inv hu.symm
        have := congrArg List.length h1
        simp at this
        omega
      by_cases hpar : v % 2 = 0
      · rw [if_pos hpar] at hV
        have HV := Lib.hid hV
        have tp : ((v : Int) % 2 == 0) = true := by simp; omega
        clear hV hk hr hll hT h263 hu hu0 hrd hpar
        go_enter Tryz.func165, Tryz.ntmps165
        go_wp2_with (first
          | (go_at_call 83; (with_reducible refine (K1.out _ HX.out).mono ?_); rintro e w1 ⟨rfl, rfl⟩)
          | (go_at_call 83; go_must (with_reducible refine (K2.out _ HX.out).mono ?_); rintro e w1 ⟨rfl, rfl⟩))
        refine bodyPost_ret (v := .tuple #[.agg #[.int .i64 (T : Nat), .bool false, .int .u64 (u : Nat), .slice none 0 0], .int .i64 ((k : Int) + (k2 : Int)), .int .i64 0]) (results_ctt rfl _ _ _ rfl rfl rfl (run_loadVar_blk (cs := #[.int .i64 (T : Nat), .bool false, .int .u64 (u : Nat), .slice none 0 0]) (n := 4) (BlkA (BlkN rfl)) fld_wide rfl)) rfl ?_
        unfold NextPost
        rw [HV.out]
        exact ⟨none, 0, rfl, exA, World.ownsRow_nil _ _ _ _⟩
      · rw [if_neg hpar] at hV
        have tp : ((v : Int) % 2 == 0) = false := by simp; omega
        by_cases h200 : 200 < u
        · rw [if_pos h200] at hV
          have HV := Lib.hid hV
          clear hV hk hr hll hT h263 hu hu0 hrd hpar
          go_enter Tryz.func165, Tryz.ntmps165
          go_wp2_with (first
            | (go_at_call 83; (with_reducible refine (K1.out _ HX.out).mono ?_); rintro e w1 ⟨rfl, rfl⟩)
            | (go_at_call 83; go_must (with_reducible refine (K2.out _ HX.out).mono ?_); rintro e w1 ⟨rfl, rfl⟩))
          refine bodyPost_ret (v := .tuple #[.agg #[.int .i64 0, .bool false, .int .u64 0, .slice none 0 0], .int .i64 0, .int .i64 (23 : Nat)]) (results_ctt rfl _ _ _ rfl rfl rfl (run_loadVar_blk (cs := #[.int .i64 0, .bool false, .int .u64 0, .slice none 0 0]) (n := 4) (BlkA (BlkN rfl)) fld_wide rfl)) rfl ?_
          unfold NextPost
          rw [HV.out]
          exact ⟨none, 0, rfl, exA, World.ownsRow_nil _ _ _ _⟩
        rw [if_neg h200] at hV
        obtain ⟨x, hx2⟩ : ∃ x, x = k + k2 := ⟨_, rfl⟩
        have R0 : (k : Int) + (k2 : Int) = (x : Int) := by omega
        obtain ⟨r, hr2⟩ : ∃ r, r = n - x := ⟨_, rfl⟩
        have R1 : (n : Int) - (k : Int) - (k2 : Int) = (r : Int) := by omega
        by_cases hsh : l.length - k - k2 < u
        · rw [if_pos hsh] at hV
          have HV := Lib.hid hV
          have hru : r < u := by omega
          have HR0 := Lib.hid R0
          clear hV hk hr hll hT h263 hu hu0 hrd hpar hsh hr2 hx2 R0
          go_enter Tryz.func165, Tryz.ntmps165
          go_wp2_with (first
            | (go_at_call 83; (with_reducible refine (K1.out _ HX.out).mono ?_); rintro e w1 ⟨rfl, rfl⟩)
            | (go_at_call 83; go_must (with_reducible refine (K2.out _ HX.out).mono ?_); rintro e w1 ⟨rfl, rfl⟩))
          refine bodyPost_ret (v := .tuple #[.agg #[.int .i64 0, .bool false, .int .u64 0, .slice none 0 0], .int .i64 0, .int .i64 (10 : Nat)]) (results_ctt rfl _ _ _ rfl rfl rfl (run_loadVar_blk (cs := #[.int .i64 0, .bool false, .int .u64 0, .slice none 0 0]) (n := 4) (BlkA (BlkN rfl)) fld_wide rfl)) rfl ?_
          unfold NextPost
          rw [HV.out]
          exact ⟨none, 0, rfl, exA, World.ownsRow_nil _ _ _ _⟩
        rw [if_neg hsh] at hV
        obtain ⟨y, hy⟩ : ∃ y, y = x + u := ⟨_, rfl⟩
        have R5 : (x : Int) + (u : Int) = (y : Int) := by omega
        have hru : u ≤ r := by omega
        obtain ⟨A2, hsl2, hrd2⟩ := slice_lh A n c x y (by omega) (by omega) hnc
        rw [show y - x = u by omega] at hsl2 hrd2
        obtain ⟨bs, hbs⟩ : ∃ bs, bs = (l.drop x).take u := ⟨_, rfl⟩
        have hV2 : V = (⟨(T : Int), true, 0, bs⟩, y, 0) := by rw [hV, hbs, hx2, hy, hx2]
        have hbl : bs.length = u := by rw [hbs]; simp; omega
        have HV := Lib.hid hV2
        have K3 : Hid (∀ w2, Ext w w2 → Calls Tryz.prog 31 #[.slice A2 u (c - x)] w2 (NewB w2 bs)) := Lib.hid fun w2 h => copy_any A2 u (c - x) bs w2 (by rw [hbs]; exact hrd2 w2 l (hr.ext h)) (by omega)
        have hB : Hid (∀ w3, Ext ((w.alloc (.cells #[.int .i64 0, .bool false, .int .u64 0, .slice none 0 0] 210)).alloc (.cells #[.int .i64 0, .bool false, .int .u64 0, .slice none 0 0] 210)) w3 → Blk w3 w.heap.size 210 #[.int .i64 0, .bool false, .int .u64 0, .slice none 0 0]) := Lib.hid fun w3 h => h.blk (BlkA (BlkN rfl))
        have hone : Hid (∀ A3 c3, ∀ v ∈ (#[.int .i64 (T : Nat), .bool true, .int .u64 0, .slice A3 bs.length c3] : Array Value).toList, v.oneCell' = true) := Lib.hid fun A3 c3 v hv => by simp at hv; rcases hv with rfl | rfl | rfl | rfl <;> rfl
        clear hV hk hr hll hT h263 hu hu0 hrd hpar hsh hr2 hx2 hy hV2 hbs hrd2 hbl
        go_enter Tryz.func165, Tryz.ntmps165
        go_wp2_with (first
          | (go_at_call 83; (with_reducible refine (K1.out _ HX.out).mono ?_); rintro e w1 ⟨rfl, rfl⟩)
          | (go_at_call 83; go_must (with_reducible refine (K2.out _ HX.out).mono ?_); rintro e w1 ⟨rfl, rfl⟩)
          | (go_at_call 31; go_must (with_reducible refine (K3.out _ HX.out).mono ?_); rintro e w3 ⟨A3, c3, rfl, hx3, hown3⟩)
          | (refine wpL_store_row rfl 210 (.tmp 4) (.tmp 91) rfl w.heap.size 210 #[.int .i64 0, .bool false, .int .u64 0, .slice none 0 0] #[.int .i64 (T : Nat), .bool true, .int .u64 0, .slice A3 bs.length c3] rfl rfl (hB.out _ hx3) rfl (hone.out A3 c3) 4 fld_wide rfl ?_))
        refine bodyPost_ret (v := .tuple #[.agg #[.int .i64 (T : Nat), .bool true, .int .u64 0, .slice A3 bs.length c3], .int .i64 (y : Nat), .int .i64 0]) (results_ctt rfl _ _ _ rfl rfl rfl (run_loadVar_blk (cs := #[.int .i64 (T : Nat), .bool true, .int .u64 0, .slice A3 bs.length c3]) (n := 4) (Blk.setRow_ (hB.out _ hx3)) fld_wide rfl)) rfl ?_
        unfold NextPost
        rw [HV.out]
        exact ⟨A3, c3, rfl, exA, own_base (own_setRow (by simp; omega) hown3) (by simp; omega)⟩
    · rw [if_pos he2] at hV
      have HV := Lib.hid hV
      have t0 : ((e2 : Int) != 0) = true := by simp; exact he2
      clear hV hk hr hll hT h263 he2 hu hrd
      go_enter Tryz.func165, Tryz.ntmps165
      go_wp2_with (first
        | (go_at_call 83; (with_reducible refine (K1.out _ HX.out).mono ?_); rintro e w1 ⟨rfl, rfl⟩)
        | (go_at_call 83; go_must (with_reducible refine (K2.out _ HX.out).mono ?_); rintro e w1 ⟨rfl, rfl⟩))
      refine bodyPost_ret (v := .tuple #[.agg #[.int .i64 0, .bool false, .int .u64 0, .slice none 0 0], .int .i64 0, .int .i64 (e2 : Nat)]) (results_ctt rfl _ _ _ rfl rfl rfl (run_loadVar_blk (cs := #[.int .i64 0, .bool false, .int .u64 0, .slice none 0 0]) (n := 4) (BlkA (BlkN rfl)) fld_wide rfl)) rfl ?_
      unfold NextPost
      rw [HV.out]
      exact ⟨none, 0, rfl, exA, World.ownsRow_nil _ _ _ _⟩
  · rw [if_pos he] at hV
    have HV := Lib.hid hV
    have t0 : ((e : Int) != 0) = true := by simp; exact he
    clear hV hk hr hll he
    go_enter Tryz.func165, Tryz.ntmps165
    go_wp2_with (go_at_call 83; go_must (with_reducible refine (K1.out _ HX.out).mono ?_); rintro e w1 ⟨rfl, rfl⟩)
    refine bodyPost_ret (v := .tuple #[.agg #[.int .i64 0, .bool false, .int .u64 0, .slice none 0 0], .int .i64 0, .int .i64 (e : Nat)]) (results_ctt rfl _ _ _ rfl rfl rfl (run_loadVar_blk (cs := #[.int .i64 0, .bool false, .int .u64 0, .slice none 0 0]) (n := 4) (BlkA (BlkN rfl)) fld_wide rfl)) rfl ?_
    unfold NextPost
    rw [HV.out]
    exact ⟨none, 0, rfl, exA, World.ownsRow_nil _ _ _ _⟩
end Go.Proofs.YtjajbbgebblalaaGreatDoor

namespace Go.Proofs.YtjajbbgebblalaaGreatDoor
open Go.RowKit
set_option linter.unusedVariables false
set_option linter.unusedSimpArgs false
def RDecR (W : World) (n : Nat) (l : List UInt8) (c5 c6 c7 : Value) (wr : World) : Prop :=
  ∃ (last : Int) (at_ : Nat) (Ar : Option Addr) (cr : Nat) (hs : List Held), c5 = .slice Ar hs.length cr ∧ c6 = .int .i64 last ∧ c7 = .int .i64 at_ ∧ at_ ≤ n ∧ 0 ≤ last ∧ last ≤ 31 ∧ hs.length ≤ at_ ∧ Ext W wr ∧
    OwnFs wr W.heap.size Ar hs.length cr hs ∧ Goes l (hs.map (·.1)) last at_
set_option maxRecDepth 100000 in
set_option maxHeartbeats 4000000 in
theorem rdec_any (A : Option Addr) (n c : Nat) (l : List UInt8) (w : World) (hr : Rd w A n (u8s l)) (hnc : n ≤ c) (hn : n ≤ maxLen) :
    Calls Tryz.prog 125 #[.slice A n c] w (DecPost w l) := by
  unfold maxLen at hn
  have hll : l.length = n := by have := hr.1; rw [u8s_len] at this; exact this
  by_cases hbig : 1024 < n
  · have Hd : Hid (dec l = ([], 0, 24)) := Lib.hid (by rw [dec_eq, if_pos (by omega)])
    clear hll hr
    go_enter Tryz.func125, Tryz.ntmps125
    go_wp2_with fail
    go_ret3
    unfold DecPost
    rw [Hd.out]
    exact ⟨none, 0, [], rfl, exA, ⟨World.ownsRow_nil _ _ _ _, fun h hh => by cases hh⟩, rfl⟩
  · have hn1 : n ≤ 1024 := by omega
    have Hdec : Hid (dec l = decA l 0 0) := Lib.hid (by rw [dec_eq, if_neg (by omega)])
    have Hll := Lib.hid hll
    have Hr := Lib.hid hr
    clear hll hbig hr
    go_enter Tryz.func125, Tryz.ntmps125
    go_wp2_with fail
    go_loopw [5, 6, 7] (fun c5 c6 c7 wr => RDecR w n l c5 c6 c7 wr) (fun _ _ c7 _ => n - (intOf c7).toNat)
    case atStart => exact ⟨0, 0, _, _, [], rfl, rfl, rfl, by omega, by omega, by omega, by simp, exA, ⟨own_new w w.heap.size #[] _ 0 (Nat.le_refl _) (by decide) rfl, fun h hh => by cases hh⟩, goes_start l⟩
    case round =>
      obtain ⟨last, at_, Ar, cr, hs, rfl, rfl, rfl, hat, hlo, hhi, hln, hx, hown, hgo⟩ := hrel
      have Hown := Lib.hid hown
      have Hgo := Lib.hid hgo
      clear hown hgo
      by_cases hlt : at_ < n
      · obtain ⟨A', hsl, hrd⟩ := slice_lo A n c at_ hat hnc
        obtain ⟨⟨f, m, E⟩, hnx⟩ : ∃ x, x = next (l.drop at_) last := ⟨_, rfl⟩
        have Kn : Hid (Calls Tryz.prog 165 #[.slice A' (n - at_) (c - at_), .int .i64 last] wr (NextPost wr (f, m, E))) := Lib.hid (by rw [hnx]; exact next_any A' (n - at_) (c - at_) last (l.drop at_) wr (hrd wr l (Hr.out.ext hx)) (by omega) (by omega) hlo hhi)
        clear hrd
        by_cases hE : E = 0
        · subst hE
          obtain ⟨p1, p2, p3, p4⟩ := next_pos hnx.symm hlo
          rw [List.length_drop] at p2
          have hgo2 := goes_step Hgo.out hlo (by have := Hll.out; omega) hnx.symm
          have Hgo2 := Lib.hid hgo2
          have hm1 : at_ + m ≤ n := by have := Hll.out; omega
          clear hnx p2 hgo2
          go_wp2_with (first
            | (go_at_call 165; go_must (with_reducible refine (Kn.out).mono ?_); rintro e w1 ⟨A1, c1, he, hx1, hown1⟩; unfold fcells at he; dsimp only at he hown1; subst he; have Hf := Lib.hid (OwnFs.ext Hown.out hx1); have Hown1 := Lib.hid hown1; clear hown1)
            | (at_builtin; go_must (refine wpF_append rfl (.tmp 32) (.tmp 34) rfl w rfl ((Hf.out.1.alloc _).alloc _) (ExtA (ExtA (hx.tr hx1))) rfl (rdF_new _ _ f A1 c1 (by simp)) (by simp; omega) ?_); intro A3 n3 c3 w3 hx3 hn3 hown3 hk3 hu3 hg3; have d8 : Blk w3 w1.heap.size 210 #[.int .i64 f.tag, .bool f.text, .int .u64 (f.num : Nat), .slice A1 f.bytes.length c1] := BlkG (BlkA (BlkN rfl)) hg3 (fun h => (by have := (Hf.out.1.lt _ h.symm).2; omega)); have e8 : w3.cell? ⟨w1.heap.size, 0, none⟩ = some (.int .i64 f.tag) := d8.cell 0; have Hu3 := Lib.hid hu3; clear hk3 hu3 hg3))
          have hn : n3 = (hs ++ [(f, A1, c1)]).length := by rw [hn3.out]; simp
          subst hn
          go_roundw
          case rel =>
            refine ⟨f.tag, at_ + m, A3, c3, hs ++ [(f, A1, c1)], rfl, rfl, by go_num, by omega, by omega, p4, by simp; omega, hx3, ?_, by rw [List.map_append]; exact Hgo2.out⟩
            refine ⟨hown3, fun h hh => Hu3.out _ _ _ _ ?_⟩
            rcases List.mem_append.1 hh with hh | hh
            · exact ((Hf.out.2 h hh).alloc _).alloc _
            · simp only [List.mem_singleton] at hh
              subst hh
              exact own_base ((Hown1.out.alloc _).alloc _) hx.size
          case measure => simp [intOf]; omega
        · have HD : Hid (dec l = ([], at_, E)) := Lib.hid (by rw [Hdec.out]; exact goes_bad Hgo.out (by have := Hll.out; omega) (by rw [← hnx]) hE)
          have t0 : ((E : Int) != 0) = true := by simp; exact hE
          clear hnx hE
          go_wp2_with (go_at_call 165; go_must (with_reducible refine (Kn.out).mono ?_); rintro e w1 ⟨A1, c1, he, hx1, hown1⟩; unfold fcells at he; dsimp only at he hown1; subst he)
          go_ret3
          unfold DecPost
          rw [HD.out]
          exact ⟨none, 0, [], rfl, exA, ⟨World.ownsRow_nil _ _ _ _, fun h hh => by cases hh⟩, rfl⟩
      · have HD : Hid (dec l = (hs.map (·.1), 0, 0)) := Lib.hid (by rw [Hdec.out]; exact goes_end Hgo.out (by have := Hll.out; omega))
        go_wp2_with fail
        go_ret3
        unfold DecPost
        rw [HD.out]
        have hl2 : (hs.map (·.1)).length = hs.length := List.length_map ..
        refine ⟨Ar, cr, hs, ?_, exA, ?_, rfl⟩
        · dsimp only; rw [hl2]; rfl
        · dsimp only; rw [hl2]
          exact Hown.out
end Go.Proofs.YtjajbbgebblalaaGreatDoor
