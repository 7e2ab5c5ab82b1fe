/-
  The walks of num's size, signed, Add, Sub, Mul, MulDiv.
-/
import Derived.Test.YtjajbbgebblalaaGreatDoorNumP
import Derived.Test.YtjajbbgebblalaaGreatDoorLongP
import Derived.Test.YtjajbbgebblalaaGreatDoorDivW
namespace Go.Proofs.YtjajbbgebblalaaGreatDoor
open Go.RowKit
set_option linter.unusedVariables false
set_option linter.unusedSimpArgs false
theorem big8 (n : Nat) (h : n ≤ 9223372036854775808) : n < 65536 ^ 8 := by omega
theorem absN_lt (v : Int) (h0 : -9223372036854775808 ≤ v) (h1 : v ≤ 9223372036854775807) : absN v ≤ 9223372036854775808 := by unfold absN; omega
theorem ret_ib {k : IntKind} {a b : Int} {x y : Bool} (h : a = b) (h2 : x = y) : Ending.returned (.tuple #[.int k a, .bool x]) = .returned (.tuple #[.int k b, .bool y]) := by rw [h, h2]
set_option maxHeartbeats 400000 in
theorem size_any (v : Int) (w : World) (h0 : -9223372036854775808 ≤ v) (h1 : v ≤ 9223372036854775807) :
    Calls Tryz.prog 237 #[.int .i64 v] w fun e w' => e = .returned (.tuple #[.int .u64 (absN v : Nat), .bool (decide (v < 0))]) ∧ w = w' := by
  by_cases h : v < 0
  · have hw : IntKind.u64.wrap v = v + 18446744073709551616 := by rw [IntKind.wrap_u64]; omega
    have hw2 : IntKind.u64.wrap (-(v + 18446744073709551616)) = -v := by rw [IntKind.wrap_u64]; omega
    go_enter Tryz.func237, Tryz.ntmps237
    go_wp2
    go_ret2
    exact ⟨ret_ib (by unfold absN; omega) (by simp [h]), rfl⟩
  · go_enter Tryz.func237, Tryz.ntmps237
    go_wp2
    go_ret2
    exact ⟨ret_ib (by unfold absN; omega) (by simp [h]), rfl⟩
set_option maxHeartbeats 400000 in
theorem signed_any (u : Nat) (b : Bool) (w : World) (hu : u < 18446744073709551616) :
    Calls Tryz.prog 240 #[.int .u64 (u : Int), .bool b] w fun e w' => e = .returned (.tuple #[.int .i64 (nf (sg b u)), .bool (fits64 (sg b u))]) ∧ w = w' := by
  cases b
  · have Hf := Lib.hid (fits_pos u)
    by_cases h : u ≤ 9223372036854775807
    · have hb : decide ((u : Int) < 9223372036854775808) = true := by simp; omega
      go_enter Tryz.func240, Tryz.ntmps240
      go_wp2
      go_ret2
      exact ⟨ret_ib (by unfold nf; rw [Hf.out]; simp [h, sg]) (by rw [Hf.out]; simp [h]), rfl⟩
    · have hb : decide ((u : Int) < 9223372036854775808) = false := by simp; omega
      go_enter Tryz.func240, Tryz.ntmps240
      go_wp2
      go_ret2
      exact ⟨ret_ib (by unfold nf; rw [Hf.out]; simp [h]) (by rw [Hf.out]; simp [h]), rfl⟩
  · have Hf := Lib.hid (fits_neg u)
    by_cases h : u ≤ 9223372036854775808
    · have hb : decide ((u : Int) ≤ 9223372036854775808) = true := by simp; omega
      go_enter Tryz.func240, Tryz.ntmps240
      go_wp2
      go_ret2
      refine ⟨ret_ib ?_ (by rw [Hf.out]; simp [h]), rfl⟩
      unfold nf
      rw [Hf.out]
      simp [h, sg, wrap64, IntKind.wrap_u64]
      omega
    · have hb : decide ((u : Int) ≤ 9223372036854775808) = false := by simp; omega
      go_enter Tryz.func240, Tryz.ntmps240
      go_wp2
      go_ret2
      exact ⟨ret_ib (by unfold nf; rw [Hf.out]; simp [h]) (by rw [Hf.out]; simp [h]), rfl⟩
theorem w_hi (v : Int) (h0 : -9223372036854775808 ≤ v) (h1 : v ≤ 9223372036854775807) : wHi v = v % 340282366920938463463374607431768211456 / 18446744073709551616 := by rw [wHi_eq v h0 h1]; split <;> omega
theorem w_lo (v : Int) (h0 : -9223372036854775808 ≤ v) (h1 : v ≤ 9223372036854775807) : wLo v = v % 340282366920938463463374607431768211456 % 18446744073709551616 := by unfold wLo; rw [IntKind.wrap_u64]; omega
theorem nar_eq (s : Int) (h0 : -85070591730234615865843651857942052864 ≤ s) (h1 : s ≤ 85070591730234615865843651857942052864) :
    narrowV (s % 340282366920938463463374607431768211456 / 18446744073709551616) (s % 340282366920938463463374607431768211456 % 18446744073709551616) = nf s := by
  unfold narrowV nf
  rw [wFits_iff _ h0 h1]
  split
  · rename_i h
    have := of_decide_eq_true h
    unfold wrap64
    omega
  · rfl
theorem sg_xor (a b : Bool) (m n : Nat) : sg a m * sg b n = sg (a != b) (m * n) := by
  cases a <;> cases b <;> simp [sg, Int.neg_mul, Int.mul_neg]
theorem sg_mul (a b : Int) : sg (decide (a < 0) != decide (b < 0)) (absN a * absN b) = a * b := by
  rw [← sg_xor, sg_abs, sg_abs]
theorem prod_lt (m n : Nat) (hm : m ≤ 9223372036854775808) (hn : n ≤ 9223372036854775808) : m * n ≤ 85070591730234615865843651857942052864 := by
  have h : m * n ≤ 9223372036854775808 * 9223372036854775808 := Nat.mul_le_mul hm hn
  omega
theorem quot_lt (hi lo z : Nat) (h : hi < z) (hlo : lo < 18446744073709551616) : hi * 18446744073709551616 + lo < 18446744073709551616 * z := by omega
theorem quot_ge (hi lo z : Nat) (h : z ≤ hi) : 9223372036854775809 * z ≤ hi * 18446744073709551616 + lo := by omega
/-- a times b over d, cut: its sign and size. -/
def mdQ (a b d : Int) : Int := sg ((decide (a < 0) != decide (b < 0)) != decide (d < 0)) (absN a * absN b / absN d)
def mdF (a b d : Int) : Bool := if d = 0 then false else fits64 (mdQ a b d)
def mdV (a b d : Int) : Int := if mdF a b d then mdQ a b d else 0
set_option maxHeartbeats 1000000 in
theorem muldiv_any (a b d : Int) (w : World) (ha0 : -9223372036854775808 ≤ a) (ha1 : a ≤ 9223372036854775807) (hb0 : -9223372036854775808 ≤ b) (hb1 : b ≤ 9223372036854775807) (hd0 : -9223372036854775808 ≤ d) (hd1 : d ≤ 9223372036854775807) :
    Calls Tryz.prog 214 #[.int .i64 a, .int .i64 b, .int .i64 d] w fun e w' => e = .returned (.tuple #[.int .i64 (mdV a b d), .bool (mdF a b d)]) ∧ Ext w w' := by
  have la := absN_lt a ha0 ha1
  have lb := absN_lt b hb0 hb1
  have ld := absN_lt d hd0 hd1
  have lp := prod_lt _ _ la lb
  have M64 : ∀ w : World, Calls Tryz.prog 238 #[.int .u64 (absN a : Nat), .int .u64 (absN b : Nat)] w fun e w' => e = .returned (.tuple #[.int .u64 ((absN a * absN b / 18446744073709551616 : Nat) : Int), .int .u64 ((absN a * absN b % 18446744073709551616 : Nat) : Int)]) ∧ w' = w :=
    fun w => Tryz.bits_Mul64 (absN a) (absN b) (by omega) (by omega) w
  obtain ⟨p, Hp⟩ : ∃ p, Hid (p = absN a * absN b) := ⟨_, rfl⟩
  obtain ⟨z, Hz⟩ : ∃ z, Hid (z = absN d) := ⟨_, rfl⟩
  obtain ⟨hi, Hhi⟩ : ∃ hi, Hid (hi = p / 18446744073709551616) := ⟨_, rfl⟩
  obtain ⟨lo, Hlo⟩ : ∃ lo, Hid (lo = p % 18446744073709551616) := ⟨_, rfl⟩
  have hlo : lo < 18446744073709551616 := by rw [Hlo.out]; omega
  have hsum : hi * 18446744073709551616 + lo = p := by have := Hhi.out; have := Hlo.out; omega
  rw [← Hp.out, ← Hhi.out, ← Hlo.out] at M64
  rw [← Hz.out] at ld
  have HM := Lib.hid M64
  have Hsum := Lib.hid hsum
  have hD : ∀ w : World, Calls Tryz.prog 237 #[.int .i64 d] w fun e w' => e = .returned (.tuple #[.int .u64 (z : Int), .bool (decide (d < 0))]) ∧ w = w' := fun w => by rw [Hz.out]; exact size_any d w hd0 hd1
  have HD := Lib.hid hD
  clear M64 hD hsum
  by_cases hlt : hi < z
  · have hk : decide (z ≤ hi) = false := by simp; omega
    have hne : d ≠ 0 := by rintro rfl; rw [Hz.out] at hlt; simp [absN] at hlt
    have hq : p / z < 18446744073709551616 := by
      rw [← Hsum.out, Nat.div_lt_iff_lt_mul (by omega)]
      exact quot_lt hi lo z hlt hlo
    have HV := Lib.hid (show mdQ a b d = sg ((decide (a < 0) != decide (b < 0)) != decide (d < 0)) (p / z) by unfold mdQ; rw [Hp.out, Hz.out])
    have D64 : ∀ w : World, Calls Tryz.prog 239 #[.int .u64 (hi : Int), .int .u64 (lo : Int), .int .u64 (z : Int)] w fun e w' => e = .returned (.tuple #[.int .u64 ((p / z : Nat) : Int), .int .u64 ((p % z : Nat) : Int)]) ∧ Ext w w' := fun w => by
      rw [← Hsum.out]; exact div64_any hi lo z w hlt (by omega) hlo
    have HDD := Lib.hid D64
    clear D64
    obtain ⟨q, Hq⟩ : ∃ q, Hid (q = p / z) := ⟨_, rfl⟩
    rw [← Hq.out] at hq HV HDD
    go_enter Tryz.func214, Tryz.ntmps214
    go_wp2_with (first
      | (go_at_call 237; (with_reducible refine (size_any a _ ha0 ha1).mono ?_); rintro e w1 ⟨rfl, rfl⟩)
      | (go_at_call 237; (with_reducible refine (size_any b _ hb0 hb1).mono ?_); rintro e w2 ⟨rfl, rfl⟩)
      | (go_at_call 237; (with_reducible refine (HD.out _).mono ?_); rintro e w2 ⟨rfl, rfl⟩)
      | (go_at_call 238; go_must (with_reducible refine (HM.out _).mono ?_); rintro e w3 ⟨rfl, rfl⟩)
      | (go_at_call 239; go_must (with_reducible refine (HDD.out _).mono ?_); rintro e w3 ⟨rfl, hx3⟩)
      | (go_at_call 240; go_must (with_reducible refine (signed_any q _ _ hq).mono ?_); rintro e w4 ⟨rfl, rfl⟩))
    go_ret2
    exact ⟨ret_ib (by unfold mdV mdF nf; rw [if_neg hne, HV.out]; rfl) (by unfold mdF; rw [if_neg hne, HV.out]; rfl), (by repeat (first | with_reducible exact Below.refl _ _ | with_reducible assumption | with_reducible refine ExtD ?_ | with_reducible refine ExtDN ?_ | with_reducible refine ExtA ?_ | (with_reducible refine ExtR ?_ ?_; (first | omega | (dsimp only; omega) | (simp; done) | (simp; omega))) | (with_reducible refine ExtS ?_ ?_; (first | omega | (dsimp only; omega) | (simp; done) | (simp; omega))) | with_reducible refine Ext.tr ?_ (by with_reducible assumption)))⟩
  · have hk : z ≤ hi := by omega
    have HF := Lib.hid (show mdF a b d = false by
      unfold mdF
      split
      · rfl
      · rename_i hne
        have hz0 : 0 < z := by rw [Hz.out]; unfold absN; omega
        unfold mdQ
        refine fits_big _ _ ?_
        rw [← Hp.out, ← Hz.out, Nat.le_div_iff_mul_le hz0, ← Hsum.out]
        exact quot_ge hi lo z (by omega))
    clear hlt
    go_enter Tryz.func214, Tryz.ntmps214
    go_wp2_with (first
      | (go_at_call 237; (with_reducible refine (size_any a _ ha0 ha1).mono ?_); rintro e w1 ⟨rfl, rfl⟩)
      | (go_at_call 237; (with_reducible refine (size_any b _ hb0 hb1).mono ?_); rintro e w2 ⟨rfl, rfl⟩)
      | (go_at_call 237; (with_reducible refine (HD.out _).mono ?_); rintro e w2 ⟨rfl, rfl⟩)
      | (go_at_call 238; go_must (with_reducible refine (HM.out _).mono ?_); rintro e w3 ⟨rfl, rfl⟩))
    go_ret2
    exact ⟨ret_ib (by unfold mdV; rw [HF.out]; rfl) HF.out.symm, (by repeat (first | with_reducible exact Below.refl _ _ | with_reducible assumption | with_reducible refine ExtD ?_ | with_reducible refine ExtDN ?_ | with_reducible refine ExtA ?_ | (with_reducible refine ExtR ?_ ?_; (first | omega | (dsimp only; omega) | (simp; done) | (simp; omega))) | (with_reducible refine ExtS ?_ ?_; (first | omega | (dsimp only; omega) | (simp; done) | (simp; omega))) | with_reducible refine Ext.tr ?_ (by with_reducible assumption)))⟩
end Go.Proofs.YtjajbbgebblalaaGreatDoor
