/-
  The walks of the laws' helpers head and same, and of the laws NumAdds and NumSums.
-/
import Derived.Test.YtjomgppbialeoaaNumW3
import Derived.Test.YtjomgppbialeoaaLongW1
import Derived.Test.YtjomgppbialeoaaLongW6
import Derived.Test.YtjomgppbialeoaaNumOrderW
namespace Go.Proofs.Ytjomgppbialeoaa
open Go.RowKit
set_option linter.unusedVariables false
set_option linter.unusedSimpArgs false
theorem head_facts : (nf 5 = 5 ∧ fits64 5 = true) ∧ mdV 7 3 2 = 10 ∧ mdF 7 3 2 = true := by decide +kernel
theorem ret_bool {a b : Bool} (h : a = b) : Ending.returned (.bool a) = .returned (.bool b) := by rw [h]
theorem one_ints (l : List Int) : ∀ u ∈ ints l, u.oneCell' = true := fun u hu => by simp [ints] at hu; obtain ⟨x, _, rfl⟩ := hu; rfl
def SameR (w : World) (n : Nat) (l m : List Int) (i : Value) (wr : World) : Prop := ∃ k : Nat, k ≤ n ∧ i = .int .i64 k ∧ Ext w wr ∧ l.take k = m.take k
set_option maxHeartbeats 400000 in
theorem same_any (A B : Option Addr) (n c n2 c2 : Nat) (l m : List Int) (w : World) (h1 : Rd w A n (ints l)) (h2 : Rd w B n2 (ints m)) (hn : n ≤ maxLen) :
    Calls Try.prog 7 #[.slice A n c, .slice B n2 c2] w fun e w' => e = .returned (.bool (decide (l = m))) ∧ Ext w w' := by
  unfold maxLen at hn
  have e1 : l.length = n := by have := h1.1; simpa [ints] using this
  have e2 : m.length = n2 := by have := h2.1; simpa [ints] using this
  by_cases hnn : n = n2
  · subst hnn
    have E1 := Lib.hid e1
    have E2 := Lib.hid e2
    clear e1 e2
    go_enter Try.func7, Try.ntmps7
    go_wp2_with fail
    go_loopw [13] (fun i wr => SameR w n l m i wr) (fun i _ => n - (intOf i).toNat)
    case atStart => exact ⟨0, by omega, rfl, (by repeat (first | with_reducible exact Below.refl _ _ | with_reducible assumption | with_reducible refine ExtD ?_ | with_reducible refine ExtDN ?_ | with_reducible refine ExtA ?_ | (with_reducible refine ExtR ?_ ?_; (first | omega | (dsimp only; omega) | (simp; done) | (simp; omega))) | (with_reducible refine ExtS ?_ ?_; (first | omega | (dsimp only; omega) | (simp; done) | (simp; omega))) | with_reducible refine Ext.tr ?_ (by with_reducible assumption))), rfl⟩
    case round =>
      obtain ⟨k, hk, rfl, hx, heq⟩ := hrel
      have Heq := Lib.hid heq
      clear heq
      by_cases hlt : k < n
      · obtain ⟨b, o, rfl, hc1⟩ := at_ints (h1.ext hx) hlt
        obtain ⟨b', o', rfl, hc2⟩ := at_ints (h2.ext hx) hlt
        have t1 := Lib.hid (ntake_snoc l k (by have := E1.out; omega))
        have t2 := Lib.hid (ntake_snoc m k (by have := E2.out; omega))
        obtain ⟨x, hx1⟩ : ∃ x, x = l.getD k 0 := ⟨_, rfl⟩
        obtain ⟨y, hy1⟩ : ∃ y, y = m.getD k 0 := ⟨_, rfl⟩
        rw [← hx1] at hc1 t1
        rw [← hy1] at hc2 t2
        have HX := Lib.hid hx1
        have HY := Lib.hid hy1
        clear hx1 hy1 h1 h2
        by_cases hxy : x = y
        · have tt : (x == y) = true := by simp [hxy]
          have Hxy := Lib.hid hxy
          clear hxy
          go_wp2_with fail
          go_quiet (fail)
          go_wp2_with fail
          go_roundw
          case rel => exact ⟨k + 1, by omega, by go_num, (by repeat (first | with_reducible exact Below.refl _ _ | with_reducible assumption | with_reducible refine ExtD ?_ | with_reducible refine ExtDN ?_ | with_reducible refine ExtA ?_ | (with_reducible refine ExtR ?_ ?_; (first | omega | (dsimp only; omega) | (simp; done) | (simp; omega))) | (with_reducible refine ExtS ?_ ?_; (first | omega | (dsimp only; omega) | (simp; done) | (simp; omega))) | with_reducible refine Ext.tr ?_ (by with_reducible assumption))), by rw [t1.out, t2.out, Heq.out, Hxy.out]⟩
          case measure => simp [intOf]; omega
        · have tt : (x == y) = false := by simp [hxy]
          have hd := Lib.hid (show l ≠ m by rintro rfl; exact hxy (HX.out.trans HY.out.symm))
          clear hxy
          go_wp2_with fail
          go_quiet (fail)
          go_wp2_with fail
          go_ret
          exact ⟨ret_bool (by simp [hd.out]), (by repeat (first | with_reducible exact Below.refl _ _ | with_reducible assumption | with_reducible refine ExtD ?_ | with_reducible refine ExtDN ?_ | with_reducible refine ExtA ?_ | (with_reducible refine ExtR ?_ ?_; (first | omega | (dsimp only; omega) | (simp; done) | (simp; omega))) | (with_reducible refine ExtS ?_ ?_; (first | omega | (dsimp only; omega) | (simp; done) | (simp; omega))) | with_reducible refine Ext.tr ?_ (by with_reducible assumption)))⟩
      · have hkn : k = n := by omega
        subst hkn
        have hd := Lib.hid (show l = m by
          have h := Heq.out
          rw [List.take_of_length_le (by have := E1.out; omega), List.take_of_length_le (by have := E2.out; omega)] at h
          exact h)
        go_wp2_with fail
        go_ret
        exact ⟨ret_bool (by simp [hd.out]), (by repeat (first | with_reducible exact Below.refl _ _ | with_reducible assumption | with_reducible refine ExtD ?_ | with_reducible refine ExtDN ?_ | with_reducible refine ExtA ?_ | (with_reducible refine ExtR ?_ ?_; (first | omega | (dsimp only; omega) | (simp; done) | (simp; omega))) | (with_reducible refine ExtS ?_ ?_; (first | omega | (dsimp only; omega) | (simp; done) | (simp; omega))) | with_reducible refine Ext.tr ?_ (by with_reducible assumption)))⟩
  · have hd := Lib.hid (show l ≠ m by rintro rfl; omega)
    have tt : ((n : Int) == (n2 : Int)) = false := by simp; omega
    clear e1 e2
    go_enter Try.func7, Try.ntmps7
    go_wp2_with fail
    go_ret
    exact ⟨ret_bool (by simp [hd.out]), (by repeat (first | with_reducible exact Below.refl _ _ | with_reducible assumption | with_reducible refine ExtD ?_ | with_reducible refine ExtDN ?_ | with_reducible refine ExtA ?_ | (with_reducible refine ExtR ?_ ?_; (first | omega | (dsimp only; omega) | (simp; done) | (simp; omega))) | (with_reducible refine ExtS ?_ ?_; (first | omega | (dsimp only; omega) | (simp; done) | (simp; omega))) | with_reducible refine Ext.tr ?_ (by with_reducible assumption)))⟩
theorem plus_num (a b : Int) : sg (plusB (decide (a < 0)) (decide (b < 0)) (absN a) (absN b)) (plusN (decide (a < 0)) (decide (b < 0)) (absN a) (absN b)) = a + b := by rw [sg_plus, sg_abs, sg_abs]
theorem minus_num (a b : Int) : sg (plusB (decide (a < 0)) (!decide (b < 0)) (absN a) (absN b)) (plusN (decide (a < 0)) (!decide (b < 0)) (absN a) (absN b)) = a - b := by
  rw [sg_plus, sg_abs]
  have h : sg (!decide (b < 0)) (absN b) = -b := by
    have := sg_abs b
    unfold sg at *
    by_cases hb : b < 0 <;> simp [hb] at * <;> omega
  omega
theorem big16 (n : Nat) (h : n ≤ 340282366920938463463374607431768211456) : n < 65536 ^ 16 := by omega
end Go.Proofs.Ytjomgppbialeoaa
