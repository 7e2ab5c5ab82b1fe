/-
  The walk of the reference's Decode.
-/
/-
  The walk of the reference's Next.
-/
/-
  The walk of the reference's Decode of fields.
-/
import Derived.Test.YtdoaniimfhpjhaaDoorVarD
import Derived.Test.YtdoaniimfhpjhaaDoorFsW
import Derived.Test.YtdoaniimfhpjhaaDoorPanW
import Derived.Test.YtdoaniimfhpjhaaDoorCurW
namespace Go.Proofs.YtdoaniimfhpjhaaDoor
open Go.RowKit
set_option linter.unusedVariables false
set_option linter.unusedSimpArgs false
def dsum (b : List UInt8) : Nat → Nat
  | 0 => 0
  | k + 1 => dsum b k + (b.getD k 0).toNat % 128 * 128 ^ k
/-- The first k bytes have the highest bit, and k is at most 9. -/
def Lead (b : List UInt8) (k : Nat) : Prop := k ≤ b.length ∧ k ≤ 9 ∧ ∀ j, j < k → 128 ≤ (b.getD j 0).toNat
theorem dsum_lt (b : List UInt8) (k : Nat) : dsum b k < 128 ^ k := by
  induction k with
  | zero => simp [dsum]
  | succ k ih =>
    rw [dsum, Nat.pow_succ]
    have h2 : (b.getD k 0).toNat % 128 * 128 ^ k ≤ 127 * 128 ^ k := Nat.mul_le_mul_right _ (by omega)
    omega
theorem lead_dec {b : List UInt8} {k : Nat} (h : Lead b k) : vdecF (b.drop k) k (dsum b k) = vdec b := by
  obtain ⟨h1, h2, h3⟩ := h
  induction k with
  | zero => rfl
  | succ k ih =>
    have i := ih (by omega) (by omega) (fun j hj => h3 j (by omega))
    rw [← i, drop_at (show k < b.length by omega), vdecF_go (by omega) (h3 k (by omega))]
    rfl
theorem lead_short {b : List UInt8} {k : Nat} (h : Lead b k) (hk : k = b.length) : vdec b = (0, 0, 10) := by
  rw [← lead_dec h, List.drop_of_length_le (by omega)]; rfl
theorem lead_wide {b : List UInt8} {k : Nat} (h : Lead b k) (hk : k = 9) (hl : k < b.length) (hb : 1 < (b.getD 9 0).toNat) : vdec b = (0, 0, 12) := by
  rw [← lead_dec h, drop_at hl, vdecF_wide hk (by rw [hk]; exact hb)]
theorem lead_long {b : List UInt8} {k : Nat} (h : Lead b k) (hl : k < b.length) (hk : 0 < k) (hb : (b.getD k 0).toNat = 0) : vdec b = (0, 0, 11) := by
  rw [← lead_dec h, drop_at hl, vdecF_long hk hb]
theorem lead_ret {b : List UInt8} {k : Nat} (h : Lead b k) (hl : k < b.length) (h9 : k = 9 → (b.getD k 0).toNat ≤ 1) (hb : (b.getD k 0).toNat < 128) (h0 : (b.getD k 0).toNat = 0 → k = 0) : vdec b = (dsum b (k + 1), k + 1, 0) := by
  rw [← lead_dec h, drop_at hl, vdecF_ret h9 hb h0]; rfl
theorem dsum_bound {b : List UInt8} {k : Nat} (h : k ≤ 9) (h9 : k = 9 → (b.getD k 0).toNat ≤ 1) : dsum b (k + 1) ≤ 18446744073709551615 := by
  rcases Nat.lt_or_ge k 9 with h1 | h1
  · have := dsum_lt b (k + 1)
    have h2 : (128 : Nat) ^ (k + 1) ≤ 128 ^ 9 := Nat.pow_le_pow_right (by omega) (by omega)
    omega
  · have : k = 9 := by omega
    subst this
    have h2 := dsum_lt b 9
    have h3 := h9 rfl
    rw [dsum]
    have h4 : (b.getD 9 0).toNat % 128 * 128 ^ 9 ≤ 1 * 128 ^ 9 := Nat.mul_le_mul_right _ (by omega)
    omega
theorem top_step {b : List UInt8} {i N T : Nat} (h : dsum b (i + 1) + T * 128 ^ (i + 1) = N) : dsum b i + (T * 128 + (b.getD i 0).toNat % 128) * 128 ^ i = N ∧ T * 128 + (b.getD i 0).toNat % 128 ≤ N := by
  have e : dsum b i + (T * 128 + (b.getD i 0).toNat % 128) * 128 ^ i = N := by
    rw [← h, dsum, Nat.pow_succ, Nat.add_mul, Nat.mul_assoc, Nat.mul_comm 128 (128 ^ i)]
    omega
  refine ⟨e, ?_⟩
  have hp : 0 < 128 ^ i := Nat.pow_pos (by omega)
  have : (T * 128 + (b.getD i 0).toNat % 128) * 1 ≤ (T * 128 + (b.getD i 0).toNat % 128) * 128 ^ i := Nat.mul_le_mul_left _ hp
  omega
def REdR (W : World) (b : List UInt8) (c5 : Value) (wr : World) : Prop := ∃ k : Nat, c5 = .int .i64 k ∧ Lead b k ∧ W = wr
def REdT (W : World) (b : List UInt8) (N : Nat) (c6 c7 : Value) (wr : World) : Prop :=
  ∃ (i T : Nat) (x : Int), c7 = .int .i64 x ∧ x + 1 = (i : Int) ∧ c6 = .int .u64 T ∧ i ≤ N ∧ dsum b i + T * 128 ^ i = dsum b N ∧ W = wr
end Go.Proofs.YtdoaniimfhpjhaaDoor

namespace Go.Proofs.YtdoaniimfhpjhaaDoor
open Go.RowKit
set_option linter.unusedVariables false
set_option linter.unusedSimpArgs false
theorem results_ctt {P : Program} {w : World} {fn : Func} {p q u : Tmp} {t1 : TypeId} {a1 : Addr} {v1 : Value} (h : fn.results = #[.cell p t1, .tmp u, .tmp q]) (tmps : Array Value) (x y : Value) (hp : tmps.getD p undef = .pointer (some a1)) (hu : tmps.getD u undef = x) (hq : tmps.getD q undef = y)
    (h1 : (loadVar t1 a1).run P w = .ok v1 w) : (results fn tmps).run P w = .ok (.tuple #[v1, x, y]) w := by
  have hp' : tmps[p]?.getD undef = .pointer (some a1) := by simpa using hp
  have hq' : tmps[q]?.getD undef = y := by simpa using hq
  have hu' : tmps[u]?.getD undef = x := by simpa using hu
  simp [results, h, hp', hq', hu', asAddr, h1]
def NextPost (w : World) (r : Fld × Nat × Nat) (e : Ending) (w' : World) : Prop :=
  ∃ A c, e = .returned (.tuple #[.agg (fcells r.1 A c), .int .i64 (r.2.1 : Nat), .int .i64 (r.2.2 : Nat)]) ∧ Ext w w' ∧ w'.ownsRow w.heap.size 5 1 (.slice A r.1.bytes.length c) r.1.bytes.length (u8s r.1.bytes)
end Go.Proofs.YtdoaniimfhpjhaaDoor

namespace Go.Proofs.YtdoaniimfhpjhaaDoor
open Go.RowKit
set_option linter.unusedVariables false
set_option linter.unusedSimpArgs false
end Go.Proofs.YtdoaniimfhpjhaaDoor
