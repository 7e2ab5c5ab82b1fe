/-
  The walks of the long numbers' Cmp and Of.
-/
import Derived.Test.YtedmbebieijofaaLongW1
import Derived.Test.YtedmbebieijofaaLongQ
namespace Go.Proofs.Ytedmbebieijofaa
open Go.RowKit
set_option linter.unusedVariables false
set_option linter.unusedSimpArgs false
def cmpI (m n : Nat) : Int := if m < n then -1 else if n < m then 1 else 0
theorem cmpI_lt {m n : Nat} (h : m < n) : cmpI m n = -1 := by simp [cmpI, h]
theorem cmpI_gt {m n : Nat} (h : n < m) : cmpI m n = 1 := by simp [cmpI, h, Nat.lt_asymm h]
theorem cmpI_eq {m n : Nat} (h : m = n) : cmpI m n = 0 := by subst h; simp [cmpI]
theorem ret_int {k : IntKind} {a b : Int} (h : a = b) : Ending.returned (.int k a) = .returned (.int k b) := by rw [h]
def CmpR (w : World) (a b : Bool) (m n : Nat) (i : Value) (wr : World) : Prop :=
  ∃ k : Nat, k ≤ 16 ∧ i = .int .i64 ((k : Int) - 1) ∧ Ext w wr ∧ Blk wr w.heap.size 33 (arrA a (dg m)) ∧ Blk wr (w.heap.size + 1) 33 (arrA b (dg n)) ∧ m / 65536 ^ k = n / 65536 ^ k
set_option maxHeartbeats 1000000 in
theorem cmp_any (a b : Bool) (m n : Nat) (w : World) (hm : m < 65536 ^ 16) (hn : n < 65536 ^ 16) :
    Calls Try.prog 37 #[longV a m, longV b n] w fun e w' => e = .returned (.int .i64 (cmpI m n)) ∧ Ext w w' := by
  have h16 : m / 65536 ^ 16 = n / 65536 ^ 16 := by rw [Nat.div_eq_of_lt hm, Nat.div_eq_of_lt hn]
  have H16 := Lib.hid h16
  clear hm hn h16
  unfold longV
  go_enter Try.func37, Try.ntmps37
  go_wp2_with fail
  go_loopw [5] (fun i wr => CmpR w a b m n i wr) (fun i _ => (intOf i + 1).toNat)
  case atStart => exact ⟨16, by omega, rfl, (by repeat (first | with_reducible exact Below.refl _ _ | with_reducible assumption | with_reducible refine ExtD ?_ | with_reducible refine ExtDN ?_ | with_reducible refine ExtA ?_ | (with_reducible refine ExtR ?_ ?_; (first | omega | (dsimp only; omega) | (simp; done) | (simp; omega))) | (with_reducible refine ExtS ?_ ?_; (first | omega | (dsimp only; omega) | (simp; done) | (simp; omega))) | with_reducible refine Ext.tr ?_ (by with_reducible assumption))), (by repeat (first | with_reducible assumption | (with_reducible refine BlkN ?_; (first | rfl | (first | omega | (dsimp only; omega) | (simp; done) | (simp; omega)))) | with_reducible refine BlkD ?_ | with_reducible refine BlkDN ?_ | with_reducible refine BlkA ?_ | with_reducible refine BlkE ?_ (by with_reducible assumption) | with_reducible refine BlkS ?_ | (with_reducible refine BlkF ?_ ?_; (first | omega | (dsimp only; omega) | (simp; done) | (simp; omega))) | (with_reducible refine BlkR ?_ ?_; (first | omega | (dsimp only; omega) | (simp; done) | (simp; omega))))), (by repeat (first | with_reducible assumption | (with_reducible refine BlkN ?_; (first | rfl | (first | omega | (dsimp only; omega) | (simp; done) | (simp; omega)))) | with_reducible refine BlkD ?_ | with_reducible refine BlkDN ?_ | with_reducible refine BlkA ?_ | with_reducible refine BlkE ?_ (by with_reducible assumption) | with_reducible refine BlkS ?_ | (with_reducible refine BlkF ?_ ?_; (first | omega | (dsimp only; omega) | (simp; done) | (simp; omega))) | (with_reducible refine BlkR ?_ ?_; (first | omega | (dsimp only; omega) | (simp; done) | (simp; omega))))), H16.out⟩
  case round =>
    obtain ⟨k, hk, rfl, hx, b0, b1, heq⟩ := hrel
    have Heq := Lib.hid heq
    clear heq
    by_cases hlt : 0 < k
    · obtain ⟨k, rfl⟩ : ∃ j, k = j + 1 := ⟨k - 1, by omega⟩
      have e1 : ((k + 1 : Nat) : Int) - 1 = k := by omega
      rw [e1]
      have c0 := (b0.cell (1 + k)).trans (arr_get _ _ k (by omega))
      have c1 := (b1.cell (1 + k)).trans (arr_get _ _ k (by omega))
      obtain ⟨p1, p2, p3⟩ := cmp_at m n k Heq.out
      have P1 := Lib.hid p1
      have P2 := Lib.hid p2
      have P3 := Lib.hid p3
      clear p1 p2 p3 e1 Heq
      rcases Nat.lt_trichotomy (dg m k) (dg n k) with h | h | h
      · go_wp2_with fail
        go_quiet (fail)
        go_wp2_with fail
        go_ret
        exact ⟨ret_int (cmpI_lt (P1.out h)).symm, (by repeat (first | with_reducible exact Below.refl _ _ | with_reducible assumption | with_reducible refine ExtD ?_ | with_reducible refine ExtDN ?_ | with_reducible refine ExtA ?_ | (with_reducible refine ExtR ?_ ?_; (first | omega | (dsimp only; omega) | (simp; done) | (simp; omega))) | (with_reducible refine ExtS ?_ ?_; (first | omega | (dsimp only; omega) | (simp; done) | (simp; omega))) | with_reducible refine Ext.tr ?_ (by with_reducible assumption)))⟩
      · have h1 : ¬ dg m k < dg n k := by omega
        have h2 : ¬ dg n k < dg m k := by omega
        have H := Lib.hid h
        clear h
        go_wp2_with fail
        go_quiet (fail)
        go_wp2_with fail
        go_quiet (fail)
        go_wp2_with fail
        go_roundw
        case rel => exact ⟨k, by omega, by simp, (by repeat (first | with_reducible exact Below.refl _ _ | with_reducible assumption | with_reducible refine ExtD ?_ | with_reducible refine ExtDN ?_ | with_reducible refine ExtA ?_ | (with_reducible refine ExtR ?_ ?_; (first | omega | (dsimp only; omega) | (simp; done) | (simp; omega))) | (with_reducible refine ExtS ?_ ?_; (first | omega | (dsimp only; omega) | (simp; done) | (simp; omega))) | with_reducible refine Ext.tr ?_ (by with_reducible assumption))), (by repeat (first | with_reducible assumption | (with_reducible refine BlkN ?_; (first | rfl | (first | omega | (dsimp only; omega) | (simp; done) | (simp; omega)))) | with_reducible refine BlkD ?_ | with_reducible refine BlkDN ?_ | with_reducible refine BlkA ?_ | with_reducible refine BlkE ?_ (by with_reducible assumption) | with_reducible refine BlkS ?_ | (with_reducible refine BlkF ?_ ?_; (first | omega | (dsimp only; omega) | (simp; done) | (simp; omega))) | (with_reducible refine BlkR ?_ ?_; (first | omega | (dsimp only; omega) | (simp; done) | (simp; omega))))), (by repeat (first | with_reducible assumption | (with_reducible refine BlkN ?_; (first | rfl | (first | omega | (dsimp only; omega) | (simp; done) | (simp; omega)))) | with_reducible refine BlkD ?_ | with_reducible refine BlkDN ?_ | with_reducible refine BlkA ?_ | with_reducible refine BlkE ?_ (by with_reducible assumption) | with_reducible refine BlkS ?_ | (with_reducible refine BlkF ?_ ?_; (first | omega | (dsimp only; omega) | (simp; done) | (simp; omega))) | (with_reducible refine BlkR ?_ ?_; (first | omega | (dsimp only; omega) | (simp; done) | (simp; omega))))), P3.out H.out⟩
        case measure => simp [intOf]
      · have h1 : ¬ dg m k < dg n k := by omega
        go_wp2_with fail
        go_quiet (fail)
        go_wp2_with fail
        go_quiet (fail)
        go_wp2_with fail
        go_ret
        exact ⟨ret_int (cmpI_gt (P2.out h)).symm, (by repeat (first | with_reducible exact Below.refl _ _ | with_reducible assumption | with_reducible refine ExtD ?_ | with_reducible refine ExtDN ?_ | with_reducible refine ExtA ?_ | (with_reducible refine ExtR ?_ ?_; (first | omega | (dsimp only; omega) | (simp; done) | (simp; omega))) | (with_reducible refine ExtS ?_ ?_; (first | omega | (dsimp only; omega) | (simp; done) | (simp; omega))) | with_reducible refine Ext.tr ?_ (by with_reducible assumption)))⟩
    · have hk0 : k = 0 := by omega
      subst hk0
      go_wp2_with fail
      go_ret
      exact ⟨ret_int (cmpI_eq (by simpa using Heq.out)).symm, (by repeat (first | with_reducible exact Below.refl _ _ | with_reducible assumption | with_reducible refine ExtD ?_ | with_reducible refine ExtDN ?_ | with_reducible refine ExtA ?_ | (with_reducible refine ExtR ?_ ?_; (first | omega | (dsimp only; omega) | (simp; done) | (simp; omega))) | (with_reducible refine ExtS ?_ ?_; (first | omega | (dsimp only; omega) | (simp; done) | (simp; omega))) | with_reducible refine Ext.tr ?_ (by with_reducible assumption)))⟩
def OfR (w : World) (b : Bool) (n : Nat) (u i : Value) (wr : World) : Prop :=
  ∃ k : Nat, k ≤ 4 ∧ i = .int .i64 k ∧ u = .int .u64 (n / 65536 ^ k : Nat) ∧ Ext w wr ∧ Blk wr w.heap.size 33 (arrA false (fun _ => 0)) ∧ Blk wr (w.heap.size + 1) 33 (arrA b (upto n k))
theorem upto_4 (b : Bool) (n : Nat) (h : n < 18446744073709551616) : arrA b (upto n 4) = arrA b (dg n) := by
  refine arr_ext fun j _ => ?_
  unfold upto
  split
  · rfl
  · unfold dg
    rw [Nat.div_eq_of_lt]
    have : 65536 ^ 4 ≤ 65536 ^ j := Nat.pow_le_pow_right (by decide) (by omega)
    omega
set_option maxHeartbeats 1000000 in
theorem of_any (v : Int) (w : World) (h0 : -9223372036854775808 ≤ v) (h1 : v ≤ 9223372036854775807) :
    Calls Try.prog 18 #[.int .i64 v] w fun e w' => e = .returned (longV (decide (v < 0)) (absN v)) ∧ Ext w w' := by
  have z2 := arr_zero false
  have s0 := arr_set0 false true (fun _ => 0)
  by_cases hneg : v < 0
  · have Hd := Lib.hid (show decide (v < 0) = true by simpa using hneg)
    have hw : IntKind.u64.wrap (-(v + 1)) = -(v + 1) := by rw [IntKind.wrap_u64]; omega
    go_enter Try.func18, Try.ntmps18
    go_wp2_with (with_reducible refine wpL_store_new rfl 33 (.tmp 3) (.tmp 6) rfl (w.heap.size + 1) 33 (arrA false fun _ => 0) (arrA false fun _ => 0) rfl rfl (by simp) (by rw [arr_size]) (arr_one _ _) 17 long_wide (arr_size _ _) ?_)
    clear s0 z2 hw
    have habs : absN v < 18446744073709551616 := by unfold absN; omega
    have hst : -(v + 1) + 1 = ((absN v / 65536 ^ 0 : Nat) : Int) := by simp [absN]; omega
    have Hst := Lib.hid hst
    clear hst
    obtain ⟨n, Hn⟩ : ∃ n, Hid (n = absN v) := ⟨_, rfl⟩
    rw [← Hn.out] at habs Hst
    go_loopw [4, 5] (fun u i wr => OfR w true n u i wr) (fun _ i _ => 4 - (intOf i).toNat)
    case atStart => exact ⟨0, by omega, rfl, by rw [Hst.out], (by repeat (first | with_reducible exact Below.refl _ _ | with_reducible assumption | with_reducible refine ExtD ?_ | with_reducible refine ExtDN ?_ | with_reducible refine ExtA ?_ | (with_reducible refine ExtR ?_ ?_; (first | omega | (dsimp only; omega) | (simp; done) | (simp; omega))) | (with_reducible refine ExtS ?_ ?_; (first | omega | (dsimp only; omega) | (simp; done) | (simp; omega))) | with_reducible refine Ext.tr ?_ (by with_reducible assumption))), (by repeat (first | with_reducible assumption | (with_reducible refine BlkN ?_; (first | rfl | (first | omega | (dsimp only; omega) | (simp; done) | (simp; omega)))) | with_reducible refine BlkD ?_ | with_reducible refine BlkDN ?_ | with_reducible refine BlkA ?_ | with_reducible refine BlkE ?_ (by with_reducible assumption) | with_reducible refine BlkS ?_ | (with_reducible refine BlkF ?_ ?_; (first | omega | (dsimp only; omega) | (simp; done) | (simp; omega))) | (with_reducible refine BlkR ?_ ?_; (first | omega | (dsimp only; omega) | (simp; done) | (simp; omega))))), by rw [← upto_zero]; exact (by repeat (first | with_reducible assumption | (with_reducible refine BlkN ?_; (first | rfl | (first | omega | (dsimp only; omega) | (simp; done) | (simp; omega)))) | with_reducible refine BlkD ?_ | with_reducible refine BlkDN ?_ | with_reducible refine BlkA ?_ | with_reducible refine BlkE ?_ (by with_reducible assumption) | with_reducible refine BlkS ?_ | (with_reducible refine BlkF ?_ ?_; (first | omega | (dsimp only; omega) | (simp; done) | (simp; omega))) | (with_reducible refine BlkR ?_ ?_; (first | omega | (dsimp only; omega) | (simp; done) | (simp; omega)))))⟩
    case round =>
      obtain ⟨k, hk, rfl, rfl, hx, b0, b1⟩ := hrel
      by_cases hlt : k < 4
      · have c1 := (b1.cell (1 + k)).trans (arr_get _ _ k (by omega))
        have f1 := b1.frozen (1 + k)
        have e1 : ((n / 65536 ^ k : Nat) : Int) % 65536 = ((dg n k : Nat) : Int) := by unfold dg; omega
        have e2 : ((n / 65536 ^ k : Nat) : Int) / 65536 = ((n / 65536 ^ (k + 1) : Nat) : Int) := by rw [Nat.pow_succ, ← Nat.div_div_eq_div_mul]; omega
        have hb : n / 65536 ^ k < 18446744073709551616 := Nat.lt_of_le_of_lt (Nat.div_le_self _ _) habs
        obtain ⟨q, Hq⟩ : ∃ q, Hid (q = n / 65536 ^ k) := ⟨_, rfl⟩
        obtain ⟨q2, Hq2⟩ : ∃ q, Hid (q = n / 65536 ^ (k + 1)) := ⟨_, rfl⟩
        rw [← Hq.out] at e1 e2 hb ⊢
        rw [← Hq2.out] at e2
        go_wp2_with fail
        go_roundw
        case rel => exact ⟨k + 1, by omega, by go_num, by rw [← Hq2.out], (by repeat (first | with_reducible exact Below.refl _ _ | with_reducible assumption | with_reducible refine ExtD ?_ | with_reducible refine ExtDN ?_ | with_reducible refine ExtA ?_ | (with_reducible refine ExtR ?_ ?_; (first | omega | (dsimp only; omega) | (simp; done) | (simp; omega))) | (with_reducible refine ExtS ?_ ?_; (first | omega | (dsimp only; omega) | (simp; done) | (simp; omega))) | with_reducible refine Ext.tr ?_ (by with_reducible assumption))), (by repeat (first | with_reducible assumption | (with_reducible refine BlkN ?_; (first | rfl | (first | omega | (dsimp only; omega) | (simp; done) | (simp; omega)))) | with_reducible refine BlkD ?_ | with_reducible refine BlkDN ?_ | with_reducible refine BlkA ?_ | with_reducible refine BlkE ?_ (by with_reducible assumption) | with_reducible refine BlkS ?_ | (with_reducible refine BlkF ?_ ?_; (first | omega | (dsimp only; omega) | (simp; done) | (simp; omega))) | (with_reducible refine BlkR ?_ ?_; (first | omega | (dsimp only; omega) | (simp; done) | (simp; omega))))), by rw [← upto_next, ← arr_set _ _ _ _ (by omega)]; exact (by repeat (first | with_reducible assumption | (with_reducible refine BlkN ?_; (first | rfl | (first | omega | (dsimp only; omega) | (simp; done) | (simp; omega)))) | with_reducible refine BlkD ?_ | with_reducible refine BlkDN ?_ | with_reducible refine BlkA ?_ | with_reducible refine BlkE ?_ (by with_reducible assumption) | with_reducible refine BlkS ?_ | (with_reducible refine BlkF ?_ ?_; (first | omega | (dsimp only; omega) | (simp; done) | (simp; omega))) | (with_reducible refine BlkR ?_ ?_; (first | omega | (dsimp only; omega) | (simp; done) | (simp; omega)))))⟩
        case measure => simp [intOf]; omega
      · have hk4 : k = 4 := by omega
        subst hk4
        rw [upto_4 _ _ habs] at b1
        go_wp2_with (first
          | with_reducible refine wpL_load_row rfl 33 (.tmp 3) rfl _ 33 (arrA true (dg n)) 17 rfl b1 long_wide (arr_size _ _) ?_
          | with_reducible refine wpL_store_row rfl 33 (.tmp 2) (.tmp 28) rfl _ 33 (arrA false fun _ => 0) (arrA true (dg n)) rfl rfl b0 (by rw [arr_size, arr_size]) (arr_one _ _) 17 long_wide (arr_size _ _) ?_)
        exact bodyPost_ret (v := .agg (arrA true (dg n))) (res_row rfl _ _ _ 33 _ 17 rfl b0.setRow_ long_wide (arr_size _ _)) rfl ⟨by rw [Hd.out, ← Hn.out], (by repeat (first | with_reducible exact Below.refl _ _ | with_reducible assumption | with_reducible refine ExtD ?_ | with_reducible refine ExtDN ?_ | with_reducible refine ExtA ?_ | (with_reducible refine ExtR ?_ ?_; (first | omega | (dsimp only; omega) | (simp; done) | (simp; omega))) | (with_reducible refine ExtS ?_ ?_; (first | omega | (dsimp only; omega) | (simp; done) | (simp; omega))) | with_reducible refine Ext.tr ?_ (by with_reducible assumption)))⟩
  · have Hd := Lib.hid (show decide (v < 0) = false by simpa using hneg)
    go_enter Try.func18, Try.ntmps18
    go_wp2_with (with_reducible refine wpL_store_new rfl 33 (.tmp 3) (.tmp 6) rfl (w.heap.size + 1) 33 (arrA false fun _ => 0) (arrA false fun _ => 0) rfl rfl (by simp) (by rw [arr_size]) (arr_one _ _) 17 long_wide (arr_size _ _) ?_)
    clear s0 z2
    have habs : absN v < 18446744073709551616 := by unfold absN; omega
    have hst : v = ((absN v / 65536 ^ 0 : Nat) : Int) := by simp [absN]; omega
    have Hst := Lib.hid hst
    clear hst
    obtain ⟨n, Hn⟩ : ∃ n, Hid (n = absN v) := ⟨_, rfl⟩
    rw [← Hn.out] at habs Hst
    go_loopw [4, 5] (fun u i wr => OfR w false n u i wr) (fun _ i _ => 4 - (intOf i).toNat)
    case atStart => exact ⟨0, by omega, rfl, by rw [Hst.out], (by repeat (first | with_reducible exact Below.refl _ _ | with_reducible assumption | with_reducible refine ExtD ?_ | with_reducible refine ExtDN ?_ | with_reducible refine ExtA ?_ | (with_reducible refine ExtR ?_ ?_; (first | omega | (dsimp only; omega) | (simp; done) | (simp; omega))) | (with_reducible refine ExtS ?_ ?_; (first | omega | (dsimp only; omega) | (simp; done) | (simp; omega))) | with_reducible refine Ext.tr ?_ (by with_reducible assumption))), (by repeat (first | with_reducible assumption | (with_reducible refine BlkN ?_; (first | rfl | (first | omega | (dsimp only; omega) | (simp; done) | (simp; omega)))) | with_reducible refine BlkD ?_ | with_reducible refine BlkDN ?_ | with_reducible refine BlkA ?_ | with_reducible refine BlkE ?_ (by with_reducible assumption) | with_reducible refine BlkS ?_ | (with_reducible refine BlkF ?_ ?_; (first | omega | (dsimp only; omega) | (simp; done) | (simp; omega))) | (with_reducible refine BlkR ?_ ?_; (first | omega | (dsimp only; omega) | (simp; done) | (simp; omega))))), by rw [← upto_zero]; exact (by repeat (first | with_reducible assumption | (with_reducible refine BlkN ?_; (first | rfl | (first | omega | (dsimp only; omega) | (simp; done) | (simp; omega)))) | with_reducible refine BlkD ?_ | with_reducible refine BlkDN ?_ | with_reducible refine BlkA ?_ | with_reducible refine BlkE ?_ (by with_reducible assumption) | with_reducible refine BlkS ?_ | (with_reducible refine BlkF ?_ ?_; (first | omega | (dsimp only; omega) | (simp; done) | (simp; omega))) | (with_reducible refine BlkR ?_ ?_; (first | omega | (dsimp only; omega) | (simp; done) | (simp; omega)))))⟩
    case round =>
      obtain ⟨k, hk, rfl, rfl, hx, b0, b1⟩ := hrel
      by_cases hlt : k < 4
      · have c1 := (b1.cell (1 + k)).trans (arr_get _ _ k (by omega))
        have f1 := b1.frozen (1 + k)
        have e1 : ((n / 65536 ^ k : Nat) : Int) % 65536 = ((dg n k : Nat) : Int) := by unfold dg; omega
        have e2 : ((n / 65536 ^ k : Nat) : Int) / 65536 = ((n / 65536 ^ (k + 1) : Nat) : Int) := by rw [Nat.pow_succ, ← Nat.div_div_eq_div_mul]; omega
        have hb : n / 65536 ^ k < 18446744073709551616 := Nat.lt_of_le_of_lt (Nat.div_le_self _ _) habs
        obtain ⟨q, Hq⟩ : ∃ q, Hid (q = n / 65536 ^ k) := ⟨_, rfl⟩
        obtain ⟨q2, Hq2⟩ : ∃ q, Hid (q = n / 65536 ^ (k + 1)) := ⟨_, rfl⟩
        rw [← Hq.out] at e1 e2 hb ⊢
        rw [← Hq2.out] at e2
        go_wp2_with fail
        go_roundw
        case rel => exact ⟨k + 1, by omega, by go_num, by rw [← Hq2.out], (by repeat (first | with_reducible exact Below.refl _ _ | with_reducible assumption | with_reducible refine ExtD ?_ | with_reducible refine ExtDN ?_ | with_reducible refine ExtA ?_ | (with_reducible refine ExtR ?_ ?_; (first | omega | (dsimp only; omega) | (simp; done) | (simp; omega))) | (with_reducible refine ExtS ?_ ?_; (first | omega | (dsimp only; omega) | (simp; done) | (simp; omega))) | with_reducible refine Ext.tr ?_ (by with_reducible assumption))), (by repeat (first | with_reducible assumption | (with_reducible refine BlkN ?_; (first | rfl | (first | omega | (dsimp only; omega) | (simp; done) | (simp; omega)))) | with_reducible refine BlkD ?_ | with_reducible refine BlkDN ?_ | with_reducible refine BlkA ?_ | with_reducible refine BlkE ?_ (by with_reducible assumption) | with_reducible refine BlkS ?_ | (with_reducible refine BlkF ?_ ?_; (first | omega | (dsimp only; omega) | (simp; done) | (simp; omega))) | (with_reducible refine BlkR ?_ ?_; (first | omega | (dsimp only; omega) | (simp; done) | (simp; omega))))), by rw [← upto_next, ← arr_set _ _ _ _ (by omega)]; exact (by repeat (first | with_reducible assumption | (with_reducible refine BlkN ?_; (first | rfl | (first | omega | (dsimp only; omega) | (simp; done) | (simp; omega)))) | with_reducible refine BlkD ?_ | with_reducible refine BlkDN ?_ | with_reducible refine BlkA ?_ | with_reducible refine BlkE ?_ (by with_reducible assumption) | with_reducible refine BlkS ?_ | (with_reducible refine BlkF ?_ ?_; (first | omega | (dsimp only; omega) | (simp; done) | (simp; omega))) | (with_reducible refine BlkR ?_ ?_; (first | omega | (dsimp only; omega) | (simp; done) | (simp; omega)))))⟩
        case measure => simp [intOf]; omega
      · have hk4 : k = 4 := by omega
        subst hk4
        rw [upto_4 _ _ habs] at b1
        go_wp2_with (first
          | with_reducible refine wpL_load_row rfl 33 (.tmp 3) rfl _ 33 (arrA false (dg n)) 17 rfl b1 long_wide (arr_size _ _) ?_
          | with_reducible refine wpL_store_row rfl 33 (.tmp 2) (.tmp 28) rfl _ 33 (arrA false fun _ => 0) (arrA false (dg n)) rfl rfl b0 (by rw [arr_size, arr_size]) (arr_one _ _) 17 long_wide (arr_size _ _) ?_)
        exact bodyPost_ret (v := .agg (arrA false (dg n))) (res_row rfl _ _ _ 33 _ 17 rfl b0.setRow_ long_wide (arr_size _ _)) rfl ⟨by rw [Hd.out, ← Hn.out], (by repeat (first | with_reducible exact Below.refl _ _ | with_reducible assumption | with_reducible refine ExtD ?_ | with_reducible refine ExtDN ?_ | with_reducible refine ExtA ?_ | (with_reducible refine ExtR ?_ ?_; (first | omega | (dsimp only; omega) | (simp; done) | (simp; omega))) | (with_reducible refine ExtS ?_ ?_; (first | omega | (dsimp only; omega) | (simp; done) | (simp; omega))) | with_reducible refine Ext.tr ?_ (by with_reducible assumption)))⟩
end Go.Proofs.Ytedmbebieijofaa
