/-
  The walk of the long numbers' Fits.
-/
import Derived.Test.YtedmbebieijofaaLongW1
namespace Go.Proofs.Ytedmbebieijofaa
open Go.RowKit
set_option linter.unusedVariables false
set_option linter.unusedSimpArgs false
def FitR1 (w : World) (b : Bool) (m : Nat) (i : Value) (wr : World) : Prop :=
  ∃ k : Nat, 4 ≤ k ∧ k ≤ 16 ∧ i = .int .i64 k ∧ Ext w wr ∧ Blk wr w.heap.size 33 (arrA b (dg m)) ∧ ∀ j, 4 ≤ j → j < k → dg m j = 0
def FitR2 (w : World) (b : Bool) (m : Nat) (u i : Value) (wr : World) : Prop :=
  ∃ k : Nat, k ≤ 4 ∧ i = .int .i64 ((k : Int) - 1) ∧ u = .int .u64 ((m / 65536 ^ k : Nat) : Int) ∧ Ext w wr ∧ Blk wr w.heap.size 33 (arrA b (dg m))
theorem ret2 {k : IntKind} {a b : Int} {x y : Bool} (h : a = b) (h2 : x = y) : Ending.returned (.tuple #[.int k a, .bool x]) = .returned (.tuple #[.int k b, .bool y]) := by rw [h, h2]
set_option maxHeartbeats 2000000 in
theorem fits_any (b : Bool) (m : Nat) (w : World) (hm : m < 65536 ^ 16) :
    Calls Try.prog 16 #[longV b m] w fun e w' => e = .returned (.tuple #[.int .i64 (nf (sg b m)), .bool (fits64 (sg b m))]) ∧ Ext w w' := by
  have Hm := Lib.hid hm
  clear hm
  have g0 := arr_get0 b (dg m)
  unfold longV
  go_enter Try.func16, Try.ntmps16
  go_wp2_with fail
  go_loopw [4] (fun i wr => FitR1 w b m i wr) (fun i _ => 16 - (intOf i).toNat)
  case atStart => exact ⟨4, by omega, by omega, rfl, (by repeat (first | with_reducible exact Below.refl _ _ | with_reducible assumption | with_reducible refine ExtD ?_ | with_reducible refine ExtDN ?_ | with_reducible refine ExtA ?_ | (with_reducible refine ExtR ?_ ?_; (first | omega | (dsimp only; omega) | (simp; done) | (simp; omega))) | (with_reducible refine ExtS ?_ ?_; (first | omega | (dsimp only; omega) | (simp; done) | (simp; omega))) | with_reducible refine Ext.tr ?_ (by with_reducible assumption))), (by repeat (first | with_reducible assumption | (with_reducible refine BlkN ?_; (first | rfl | (first | omega | (dsimp only; omega) | (simp; done) | (simp; omega)))) | with_reducible refine BlkD ?_ | with_reducible refine BlkDN ?_ | with_reducible refine BlkA ?_ | with_reducible refine BlkE ?_ (by with_reducible assumption) | with_reducible refine BlkS ?_ | (with_reducible refine BlkF ?_ ?_; (first | omega | (dsimp only; omega) | (simp; done) | (simp; omega))) | (with_reducible refine BlkR ?_ ?_; (first | omega | (dsimp only; omega) | (simp; done) | (simp; omega))))), fun j h1 h2 => by omega⟩
  case round =>
    obtain ⟨k, hk1, hk, rfl, hx, b0, hz⟩ := hrel
    have Hz := Lib.hid hz
    clear hz
    by_cases hlt : k < 16
    · have c0 := (b0.cell (1 + k)).trans (arr_get _ _ k hlt)
      by_cases hd : dg m k = 0
      · have Hd := Lib.hid hd
        rw [hd] at c0
        clear hd
        go_wp2_with fail
        go_roundw
        case rel => exact ⟨k + 1, by omega, by omega, by go_num, (by repeat (first | with_reducible exact Below.refl _ _ | with_reducible assumption | with_reducible refine ExtD ?_ | with_reducible refine ExtDN ?_ | with_reducible refine ExtA ?_ | (with_reducible refine ExtR ?_ ?_; (first | omega | (dsimp only; omega) | (simp; done) | (simp; omega))) | (with_reducible refine ExtS ?_ ?_; (first | omega | (dsimp only; omega) | (simp; done) | (simp; omega))) | with_reducible refine Ext.tr ?_ (by with_reducible assumption))), (by repeat (first | with_reducible assumption | (with_reducible refine BlkN ?_; (first | rfl | (first | omega | (dsimp only; omega) | (simp; done) | (simp; omega)))) | with_reducible refine BlkD ?_ | with_reducible refine BlkDN ?_ | with_reducible refine BlkA ?_ | with_reducible refine BlkE ?_ (by with_reducible assumption) | with_reducible refine BlkS ?_ | (with_reducible refine BlkF ?_ ?_; (first | omega | (dsimp only; omega) | (simp; done) | (simp; omega))) | (with_reducible refine BlkR ?_ ?_; (first | omega | (dsimp only; omega) | (simp; done) | (simp; omega))))), fun j h1 h2 => by rcases Nat.lt_or_ge j k with h | h; exact Hz.out j h1 h; rw [show j = k by omega]; exact Hd.out⟩
        case measure => simp [intOf]; omega
      · have hbig := dg_big m k hk1 hd
        have hf := fits_big b m (by omega)
        have Hf := Lib.hid hf
        have hd1 : ((dg m k : Nat) : Int) ≠ 0 := by omega
        have hd2 : (((dg m k : Nat) : Int) == 0) = false := by simpa using hd
        clear hf hd hbig
        go_wp2_with fail
        go_ret2
        exact ⟨ret2 (by unfold nf; rw [Hf.out]; rfl) Hf.out.symm, (by repeat (first | with_reducible exact Below.refl _ _ | with_reducible assumption | with_reducible refine ExtD ?_ | with_reducible refine ExtDN ?_ | with_reducible refine ExtA ?_ | (with_reducible refine ExtR ?_ ?_; (first | omega | (dsimp only; omega) | (simp; done) | (simp; omega))) | (with_reducible refine ExtS ?_ ?_; (first | omega | (dsimp only; omega) | (simp; done) | (simp; omega))) | with_reducible refine Ext.tr ?_ (by with_reducible assumption)))⟩
    · have hk16 : k = 16 := by omega
      subst hk16
      have hs := dg_small m Hm.out Hz.out
      clear Hz Hm
      go_wp2_with fail
      obtain ⟨wo, rfl⟩ : ∃ wo : World, wo = wr := ⟨_, rfl⟩
      have h4 : m / 65536 ^ 4 = 0 := Nat.div_eq_of_lt hs
      go_loopw [5, 6] (fun u i wr => FitR2 w b m u i wr) (fun _ i _ => (intOf i + 1).toNat)
      case atStart => exact ⟨4, by omega, rfl, by rw [h4]; rfl, (by repeat (first | with_reducible exact Below.refl _ _ | with_reducible assumption | with_reducible refine ExtD ?_ | with_reducible refine ExtDN ?_ | with_reducible refine ExtA ?_ | (with_reducible refine ExtR ?_ ?_; (first | omega | (dsimp only; omega) | (simp; done) | (simp; omega))) | (with_reducible refine ExtS ?_ ?_; (first | omega | (dsimp only; omega) | (simp; done) | (simp; omega))) | with_reducible refine Ext.tr ?_ (by with_reducible assumption))), (by repeat (first | with_reducible assumption | (with_reducible refine BlkN ?_; (first | rfl | (first | omega | (dsimp only; omega) | (simp; done) | (simp; omega)))) | with_reducible refine BlkD ?_ | with_reducible refine BlkDN ?_ | with_reducible refine BlkA ?_ | with_reducible refine BlkE ?_ (by with_reducible assumption) | with_reducible refine BlkS ?_ | (with_reducible refine BlkF ?_ ?_; (first | omega | (dsimp only; omega) | (simp; done) | (simp; omega))) | (with_reducible refine BlkR ?_ ?_; (first | omega | (dsimp only; omega) | (simp; done) | (simp; omega)))))⟩
      case round =>
        obtain ⟨k, hk, rfl, rfl, hx2, b1⟩ := hrel
        clear h4 hx b0
        by_cases hlt : 0 < k
        · obtain ⟨k, rfl⟩ : ∃ j, k = j + 1 := ⟨k - 1, by omega⟩
          have e1 : ((k + 1 : Nat) : Int) - 1 = k := by omega
          rw [e1]
          have c0 := (b1.cell (1 + k)).trans (arr_get _ _ k (by omega))
          have q1 : m / 65536 ^ k = m / 65536 ^ (k + 1) * 65536 + dg m k := by unfold dg; rw [Nat.pow_succ, ← Nat.div_div_eq_div_mul]; omega
          have q2 : m / 65536 ^ k < 18446744073709551616 := Nat.lt_of_le_of_lt (Nat.div_le_self _ _) hs
          have d0 := dg_lt m k
          obtain ⟨q, Hq⟩ : ∃ q, Hid (q = m / 65536 ^ k) := ⟨_, rfl⟩
          obtain ⟨p, Hp⟩ : ∃ q, Hid (q = m / 65536 ^ (k + 1)) := ⟨_, rfl⟩
          rw [← Hp.out] at q1 ⊢
          rw [← Hq.out] at q1 q2
          have q3 : p * 65536 + dg m k < 18446744073709551616 := by omega
          have Q1 := Lib.hid q1
          clear q1 q2 e1
          go_wp2_with fail
          go_roundw
          case rel => exact ⟨k, by omega, by simp, by rw [← Hq.out, Q1.out]; go_num, (by repeat (first | with_reducible exact Below.refl _ _ | with_reducible assumption | with_reducible refine ExtD ?_ | with_reducible refine ExtDN ?_ | with_reducible refine ExtA ?_ | (with_reducible refine ExtR ?_ ?_; (first | omega | (dsimp only; omega) | (simp; done) | (simp; omega))) | (with_reducible refine ExtS ?_ ?_; (first | omega | (dsimp only; omega) | (simp; done) | (simp; omega))) | with_reducible refine Ext.tr ?_ (by with_reducible assumption))), (by repeat (first | with_reducible assumption | (with_reducible refine BlkN ?_; (first | rfl | (first | omega | (dsimp only; omega) | (simp; done) | (simp; omega)))) | with_reducible refine BlkD ?_ | with_reducible refine BlkDN ?_ | with_reducible refine BlkA ?_ | with_reducible refine BlkE ?_ (by with_reducible assumption) | with_reducible refine BlkS ?_ | (with_reducible refine BlkF ?_ ?_; (first | omega | (dsimp only; omega) | (simp; done) | (simp; omega))) | (with_reducible refine BlkR ?_ ?_; (first | omega | (dsimp only; omega) | (simp; done) | (simp; omega)))))⟩
          case measure => simp [intOf]
        · have hk0 : k = 0 := by omega
          subst hk0
          rw [Nat.pow_zero, Nat.div_one]
          have c0 := (b1.cell 0).trans g0
          cases b
          · have Hf := Lib.hid (fits_pos m)
            by_cases hm1 : m ≤ 9223372036854775807
            · go_wp2_with fail
              go_ret2
              exact ⟨ret2 (by unfold nf; rw [Hf.out]; simp [hm1, sg]) (by rw [Hf.out]; simp [hm1]), (by repeat (first | with_reducible exact Below.refl _ _ | with_reducible assumption | with_reducible refine ExtD ?_ | with_reducible refine ExtDN ?_ | with_reducible refine ExtA ?_ | (with_reducible refine ExtR ?_ ?_; (first | omega | (dsimp only; omega) | (simp; done) | (simp; omega))) | (with_reducible refine ExtS ?_ ?_; (first | omega | (dsimp only; omega) | (simp; done) | (simp; omega))) | with_reducible refine Ext.tr ?_ (by with_reducible assumption)))⟩
            · go_wp2_with fail
              go_ret2
              exact ⟨ret2 (by unfold nf; rw [Hf.out]; simp [hm1]) (by rw [Hf.out]; simp [hm1]), (by repeat (first | with_reducible exact Below.refl _ _ | with_reducible assumption | with_reducible refine ExtD ?_ | with_reducible refine ExtDN ?_ | with_reducible refine ExtA ?_ | (with_reducible refine ExtR ?_ ?_; (first | omega | (dsimp only; omega) | (simp; done) | (simp; omega))) | (with_reducible refine ExtS ?_ ?_; (first | omega | (dsimp only; omega) | (simp; done) | (simp; omega))) | with_reducible refine Ext.tr ?_ (by with_reducible assumption)))⟩
          · have Hf := Lib.hid (fits_neg m)
            by_cases hz : m = 0
            · subst hz
              go_wp2_with fail
              go_ret2
              exact ⟨ret2 (by decide) (by decide), (by repeat (first | with_reducible exact Below.refl _ _ | with_reducible assumption | with_reducible refine ExtD ?_ | with_reducible refine ExtDN ?_ | with_reducible refine ExtA ?_ | (with_reducible refine ExtR ?_ ?_; (first | omega | (dsimp only; omega) | (simp; done) | (simp; omega))) | (with_reducible refine ExtS ?_ ?_; (first | omega | (dsimp only; omega) | (simp; done) | (simp; omega))) | with_reducible refine Ext.tr ?_ (by with_reducible assumption)))⟩
            · have hpos : 0 < m := by omega
              clear hz
              by_cases hm1 : m ≤ 9223372036854775808
              · go_wp2_with fail
                go_ret2
                exact ⟨ret2 (by unfold nf; rw [Hf.out]; simp [hm1, sg]; omega) (by rw [Hf.out]; simp [hm1]), (by repeat (first | with_reducible exact Below.refl _ _ | with_reducible assumption | with_reducible refine ExtD ?_ | with_reducible refine ExtDN ?_ | with_reducible refine ExtA ?_ | (with_reducible refine ExtR ?_ ?_; (first | omega | (dsimp only; omega) | (simp; done) | (simp; omega))) | (with_reducible refine ExtS ?_ ?_; (first | omega | (dsimp only; omega) | (simp; done) | (simp; omega))) | with_reducible refine Ext.tr ?_ (by with_reducible assumption)))⟩
              · go_wp2_with fail
                go_ret2
                exact ⟨ret2 (by unfold nf; rw [Hf.out]; simp [hm1]) (by rw [Hf.out]; simp [hm1]), (by repeat (first | with_reducible exact Below.refl _ _ | with_reducible assumption | with_reducible refine ExtD ?_ | with_reducible refine ExtDN ?_ | with_reducible refine ExtA ?_ | (with_reducible refine ExtR ?_ ?_; (first | omega | (dsimp only; omega) | (simp; done) | (simp; omega))) | (with_reducible refine ExtS ?_ ?_; (first | omega | (dsimp only; omega) | (simp; done) | (simp; omega))) | with_reducible refine Ext.tr ?_ (by with_reducible assumption)))⟩
end Go.Proofs.Ytedmbebieijofaa
