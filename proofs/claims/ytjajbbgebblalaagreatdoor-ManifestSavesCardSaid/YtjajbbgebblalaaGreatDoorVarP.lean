/-
  The plain law of varints: written by groups of seven bits, read back. No program in sight.
-/
import Derived.RowKit
namespace Go.Proofs.YtjajbbgebblalaaGreatDoor
open Go.RowKit
set_option linter.unusedVariables false
set_option linter.unusedSimpArgs false
def venc (u : Nat) : List UInt8 := if u < 128 then [UInt8.ofNat u] else UInt8.ofNat (128 + u % 128) :: venc (u / 128)
termination_by u
decreasing_by omega
theorem venc_lo {u : Nat} (h : u < 128) : venc u = [UInt8.ofNat u] := by rw [venc, if_pos h]
theorem venc_hi {u : Nat} (h : ¬ u < 128) : venc u = UInt8.ofNat (128 + u % 128) :: venc (u / 128) := by rw [venc, if_neg h]
theorem venc_pos (u : Nat) : 0 < (venc u).length := by
  by_cases h : u < 128
  · rw [venc_lo h]; simp
  · rw [venc_hi h]; simp
theorem venc_len (i u : Nat) (h : u < 128 ^ (i + 1)) : (venc u).length ≤ i + 1 := by
  induction i generalizing u with
  | zero => rw [venc_lo (by simpa using h)]; simp
  | succ i ih =>
    by_cases h1 : u < 128
    · rw [venc_lo h1]; simp
    · rw [venc_hi h1]
      have : u / 128 < 128 ^ (i + 1) := by rw [Nat.div_lt_iff_lt_mul (by omega), ← Nat.pow_succ]; exact h
      have := ih _ this
      simp; omega
theorem venc_len10 (u : Nat) (h : u < 18446744073709551616) : (venc u).length ≤ 10 := venc_len 9 u (by simp; omega)
def vdecF : List UInt8 → Nat → Nat → Nat × Nat × Nat
  | [], _, _ => (0, 0, 10)
  | c :: r, i, acc =>
    if i = 9 ∧ 1 < c.toNat then (0, 0, 12)
    else if 128 ≤ c.toNat then vdecF r (i + 1) (acc + (c.toNat % 128) * 128 ^ i)
    else if c.toNat = 0 ∧ 0 < i then (0, 0, 11)
    else (acc + c.toNat * 128 ^ i, i + 1, 0)
def vdec (b : List UInt8) : Nat × Nat × Nat := vdecF b 0 0
theorem toNat_ofNat {u : Nat} (h : u < 256) : (UInt8.ofNat u).toNat = u := by simp; omega
theorem vdecF_enc (u i acc : Nat) (r : List UInt8) (h1 : u * 128 ^ i < 18446744073709551616) (h2 : 0 < i → 0 < u) : vdecF (venc u ++ r) i acc = (acc + u * 128 ^ i, i + (venc u).length, 0) := by
  induction u using Nat.strongRecOn generalizing i acc with
  | _ u ih =>
    have hi9 : i = 9 → u ≤ 1 := by rintro rfl; omega
    by_cases h : u < 128
    · rw [venc_lo h]
      simp only [List.cons_append, List.nil_append, vdecF, toNat_ofNat (show u < 256 by omega)]
      rw [if_neg (by omega), if_neg (by omega), if_neg (by omega)]
      simp
    · rw [venc_hi h]
      simp only [List.cons_append, vdecF, toNat_ofNat (show 128 + u % 128 < 256 by omega)]
      rw [if_neg (by omega), if_pos (by omega)]
      have e : 128 ^ (i + 1) = 128 * 128 ^ i := by rw [Nat.pow_succ, Nat.mul_comm]
      have h3 : u / 128 * 128 ^ (i + 1) ≤ u * 128 ^ i := by
        rw [e, ← Nat.mul_assoc]
        exact Nat.mul_le_mul_right _ (by omega)
      rw [ih (u / 128) (by omega) (i + 1) _ (by omega) (by omega)]
      have h4 : (128 + u % 128) % 128 * 128 ^ i + u / 128 * 128 ^ (i + 1) = u * 128 ^ i := by
        rw [e, ← Nat.mul_assoc, ← Nat.add_mul]
        congr 1
        omega
      simp only [List.length_cons, Prod.mk.injEq, and_true]
      exact ⟨by rw [Nat.add_assoc, h4], by omega⟩
theorem vdec_enc (u : Nat) (r : List UInt8) (h : u < 18446744073709551616) : vdec (venc u ++ r) = (u, (venc u).length, 0) := by
  have := vdecF_enc u 0 0 r (by omega) (by omega)
  simpa [vdec] using this
theorem pow128 {i : Nat} (h : i ≤ 8) : 128 ^ i ≤ 72057594037927936 := by
  have : (128 : Nat) ^ i ≤ 128 ^ 8 := Nat.pow_le_pow_right (by omega) h
  exact this
theorem vdecF_inv (b : List UInt8) (i acc v n : Nat) (hi : i ≤ 9) (h : vdecF b i acc = (v, n, 0)) :
    ∃ u r, b = venc u ++ r ∧ n = i + (venc u).length ∧ v = acc + u * 128 ^ i ∧ (0 < i → 0 < u) ∧ u * 128 ^ i < 18446744073709551616 := by
  induction b generalizing i acc with
  | nil => simp [vdecF] at h
  | cons c r ih =>
    rw [vdecF] at h
    by_cases h1 : i = 9 ∧ 1 < c.toNat
    · rw [if_pos h1] at h; simp at h
    rw [if_neg h1] at h
    have hc := c.toNat_lt
    by_cases h2 : 128 ≤ c.toNat
    · rw [if_pos h2] at h
      obtain ⟨u, s, hb, hn, hv, hu, hlt⟩ := ih (i + 1) _ (by omega) h
      have hu0 := hu (by omega)
      have e : 128 ^ (i + 1) = 128 * 128 ^ i := by rw [Nat.pow_succ, Nat.mul_comm]
      have hd : (c.toNat % 128 + 128 * u) / 128 = u := by omega
      have hve : venc (c.toNat % 128 + 128 * u) = c :: venc u := by
        rw [venc_hi (by omega), hd]
        congr 1
        apply UInt8.toNat_inj.1
        rw [toNat_ofNat (by omega)]
        omega
      refine ⟨c.toNat % 128 + 128 * u, s, ?_, ?_, ?_, ?_, ?_⟩
      · rw [hve, hb]; rfl
      · rw [hve, hn]; simp; omega
      · rw [hv, e, Nat.add_mul, Nat.add_assoc]
        congr 2
        rw [← Nat.mul_assoc, Nat.mul_comm u 128]
      · omega
      · rw [e, ← Nat.mul_assoc] at hlt
        have h8 : i ≤ 8 := by omega
        have h9 : (c.toNat % 128 + 128 * u) * 128 ^ i = c.toNat % 128 * 128 ^ i + u * 128 * 128 ^ i := by rw [Nat.add_mul, Nat.mul_comm 128 u]
        rw [h9]
        have hdv : ∃ k, 18446744073709551616 = 128 ^ i * (128 * k) := by
          refine ⟨2 * 128 ^ (8 - i), ?_⟩
          have h10 : (128 : Nat) ^ i * 128 ^ (8 - i) = 128 ^ 8 := by rw [← Nat.pow_add]; congr 1; omega
          have h11 : (128 : Nat) ^ i * (128 * (2 * 128 ^ (8 - i))) = 256 * (128 ^ i * 128 ^ (8 - i)) := by
            generalize (128 : Nat) ^ i = X
            generalize (128 : Nat) ^ (8 - i) = Y
            rw [← Nat.mul_assoc 128 2 Y, Nat.mul_left_comm]
          rw [h11, h10]
        obtain ⟨k, hk⟩ := hdv
        have hX0 : 0 < 128 ^ i := Nat.pow_pos (by omega)
        generalize 128 ^ i = X at *
        have hY : u * 128 * X = X * (u * 128) := Nat.mul_comm _ _
        rw [hk, hY] at hlt
        have h5 : u * 128 < 128 * k := Nat.lt_of_mul_lt_mul_left hlt
        rw [hk, hY, Nat.mul_comm _ X, ← Nat.mul_add]
        exact Nat.mul_lt_mul_of_pos_left (by omega) hX0
    · rw [if_neg h2] at h
      by_cases h3 : c.toNat = 0 ∧ 0 < i
      · rw [if_pos h3] at h; simp at h
      rw [if_neg h3] at h
      have hve : venc c.toNat = [c] := by
        rw [venc_lo (by omega)]; simp
      simp only [Prod.mk.injEq, and_true] at h
      refine ⟨c.toNat, r, by rw [hve]; rfl, by rw [hve]; simp; omega, h.1.symm, by omega, ?_⟩
      by_cases h9 : i = 9
      · subst h9; omega
      · have := pow128 (i := i) (by omega)
        calc c.toNat * 128 ^ i ≤ 127 * 72057594037927936 := Nat.mul_le_mul (by omega) this
          _ < _ := by decide
theorem vdec_inv {b : List UInt8} {v n : Nat} (h : vdec b = (v, n, 0)) : ∃ r, b = venc v ++ r ∧ n = (venc v).length ∧ v < 18446744073709551616 := by
  obtain ⟨u, r, hb, hn, hv, _, hlt⟩ := vdecF_inv b 0 0 v n (by omega) h
  simp at hv hn hlt
  subst hv
  exact ⟨r, hb, hn, hlt⟩
end Go.Proofs.YtjajbbgebblalaaGreatDoor
