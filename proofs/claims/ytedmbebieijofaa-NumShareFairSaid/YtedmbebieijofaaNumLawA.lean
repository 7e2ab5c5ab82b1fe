/-
  The walks of the laws' helpers head and same, and of the laws NumAdds and NumSums.
-/
import Derived.Test.YtedmbebieijofaaNumW3
import Derived.Test.YtedmbebieijofaaLongW5
import Derived.Test.YtedmbebieijofaaLongW6
import Derived.Test.YtedmbebieijofaaNumOrderW
namespace Go.Proofs.Ytedmbebieijofaa
open Go.RowKit
set_option linter.unusedVariables false
set_option linter.unusedSimpArgs false
theorem head_facts : (nf 5 = 5 ∧ fits64 5 = true) ∧ mdV 7 3 2 = 10 ∧ mdF 7 3 2 = true := by decide +kernel
set_option maxHeartbeats 400000 in
theorem head_any (w : World) : Calls Try.prog 13 #[] w fun e w' => e = .returned (.bool true) ∧ Ext w w' := by
  obtain ⟨⟨f1, f2⟩, f3, f4⟩ := head_facts
  go_enter Try.func13, Try.ntmps13
  go_wp2_with (first
    | (go_at_call 19; go_must (with_reducible refine (add_any 2 3 _ (by omega) (by omega) (by omega) (by omega)).mono ?_); rintro e w1 ⟨rfl, hx1⟩)
    | (go_at_call 15; go_must (with_reducible refine (muldiv_any 7 3 2 _ (by omega) (by omega) (by omega) (by omega) (by omega) (by omega)).mono ?_); rintro e w2 ⟨rfl, hx2⟩))
  go_ret
  exact ⟨by simp, Ext.tr hx1 hx2⟩
theorem ret_bool {a b : Bool} (h : a = b) : Ending.returned (.bool a) = .returned (.bool b) := by rw [h]
theorem one_ints (l : List Int) : ∀ u ∈ ints l, u.oneCell' = true := fun u hu => by simp [ints] at hu; obtain ⟨x, _, rfl⟩ := hu; rfl
def SameR (w : World) (n : Nat) (l m : List Int) (i : Value) (wr : World) : Prop := ∃ k : Nat, k ≤ n ∧ i = .int .i64 k ∧ Ext w wr ∧ l.take k = m.take k
set_option maxHeartbeats 400000 in
theorem same_any (A B : Option Addr) (n c n2 c2 : Nat) (l m : List Int) (w : World) (h1 : Rd w A n (ints l)) (h2 : Rd w B n2 (ints m)) (hn : n ≤ maxLen) :
    Calls Try.prog 22 #[.slice A n c, .slice B n2 c2] w fun e w' => e = .returned (.bool (decide (l = m))) ∧ Ext w w' := by
  unfold maxLen at hn
  have e1 : l.length = n := by have := h1.1; simpa [ints] using this
  have e2 : m.length = n2 := by have := h2.1; simpa [ints] using this
  by_cases hnn : n = n2
  · subst hnn
    have E1 := Lib.hid e1
    have E2 := Lib.hid e2
    clear e1 e2
    go_enter Try.func22, Try.ntmps22
    go_wp2_with fail
    go_loopw [13] (fun i wr => SameR w n l m i wr) (fun i _ => n - (intOf i).toNat)
    case atStart => exact ⟨0, by omega, rfl, (by repeat (first | with_reducible exact Below.refl _ _ | with_reducible assumption | with_reducible refine ExtD ?_ | with_reducible refine ExtDN ?_ | with_reducible refine ExtA ?_ | (with_reducible refine ExtR ?_ ?_; (first | omega | (dsimp only; omega) | (simp; done) | (simp; omega))) | (with_reducible refine ExtS ?_ ?_; (first | omega | (dsimp only; omega) | (simp; done) | (simp; omega))) | with_reducible refine Ext.tr ?_ (by with_reducible assumption))), rfl⟩
    case round =>
      obtain ⟨k, hk, rfl, hx, heq⟩ := hrel
      have Heq := Lib.hid heq
      clear heq
      by_cases hlt : k < n
      · obtain ⟨b, o, rfl, hc1⟩ := at_ints (h1.ext hx) hlt
        obtain ⟨b', o', rfl, hc2⟩ := at_ints (h2.ext hx) hlt
        have t1 := Lib.hid (take_snoc l k (by have := E1.out; omega))
        have t2 := Lib.hid (take_snoc m k (by have := E2.out; omega))
        obtain ⟨x, hx1⟩ : ∃ x, x = l.getD k 0 := ⟨_, rfl⟩
        obtain ⟨y, hy1⟩ : ∃ y, y = m.getD k 0 := ⟨_, rfl⟩
        rw [← hx1] at hc1 t1
        rw [← hy1] at hc2 t2
        have HX := Lib.hid hx1
        have HY := Lib.hid hy1
        clear hx1 hy1 h1 h2
        by_cases hxy : x = y
        · have tt : (x == y) = true := by simp [hxy]
          have Hxy := Lib.hid hxy
          clear hxy
          go_wp2_with fail
          go_quiet (fail)
          go_wp2_with fail
          go_roundw
          case rel => exact ⟨k + 1, by omega, by go_num, (by repeat (first | with_reducible exact Below.refl _ _ | with_reducible assumption | with_reducible refine ExtD ?_ | with_reducible refine ExtDN ?_ | with_reducible refine ExtA ?_ | (with_reducible refine ExtR ?_ ?_; (first | omega | (dsimp only; omega) | (simp; done) | (simp; omega))) | (with_reducible refine ExtS ?_ ?_; (first | omega | (dsimp only; omega) | (simp; done) | (simp; omega))) | with_reducible refine Ext.tr ?_ (by with_reducible assumption))), by rw [t1.out, t2.out, Heq.out, Hxy.out]⟩
          case measure => simp [intOf]; omega
        · have tt : (x == y) = false := by simp [hxy]
          have hd := Lib.hid (show l ≠ m by rintro rfl; exact hxy (HX.out.trans HY.out.symm))
          clear hxy
          go_wp2_with fail
          go_quiet (fail)
          go_wp2_with fail
          go_ret
          exact ⟨ret_bool (by simp [hd.out]), (by repeat (first | with_reducible exact Below.refl _ _ | with_reducible assumption | with_reducible refine ExtD ?_ | with_reducible refine ExtDN ?_ | with_reducible refine ExtA ?_ | (with_reducible refine ExtR ?_ ?_; (first | omega | (dsimp only; omega) | (simp; done) | (simp; omega))) | (with_reducible refine ExtS ?_ ?_; (first | omega | (dsimp only; omega) | (simp; done) | (simp; omega))) | with_reducible refine Ext.tr ?_ (by with_reducible assumption)))⟩
      · have hkn : k = n := by omega
        subst hkn
        have hd := Lib.hid (show l = m by
          have h := Heq.out
          rw [List.take_of_length_le (by have := E1.out; omega), List.take_of_length_le (by have := E2.out; omega)] at h
          exact h)
        go_wp2_with fail
        go_ret
        exact ⟨ret_bool (by simp [hd.out]), (by repeat (first | with_reducible exact Below.refl _ _ | with_reducible assumption | with_reducible refine ExtD ?_ | with_reducible refine ExtDN ?_ | with_reducible refine ExtA ?_ | (with_reducible refine ExtR ?_ ?_; (first | omega | (dsimp only; omega) | (simp; done) | (simp; omega))) | (with_reducible refine ExtS ?_ ?_; (first | omega | (dsimp only; omega) | (simp; done) | (simp; omega))) | with_reducible refine Ext.tr ?_ (by with_reducible assumption)))⟩
  · have hd := Lib.hid (show l ≠ m by rintro rfl; omega)
    have tt : ((n : Int) == (n2 : Int)) = false := by simp; omega
    clear e1 e2
    go_enter Try.func22, Try.ntmps22
    go_wp2_with fail
    go_ret
    exact ⟨ret_bool (by simp [hd.out]), (by repeat (first | with_reducible exact Below.refl _ _ | with_reducible assumption | with_reducible refine ExtD ?_ | with_reducible refine ExtDN ?_ | with_reducible refine ExtA ?_ | (with_reducible refine ExtR ?_ ?_; (first | omega | (dsimp only; omega) | (simp; done) | (simp; omega))) | (with_reducible refine ExtS ?_ ?_; (first | omega | (dsimp only; omega) | (simp; done) | (simp; omega))) | with_reducible refine Ext.tr ?_ (by with_reducible assumption)))⟩
theorem plus_num (a b : Int) : sg (plusB (decide (a < 0)) (decide (b < 0)) (absN a) (absN b)) (plusN (decide (a < 0)) (decide (b < 0)) (absN a) (absN b)) = a + b := by rw [sg_plus, sg_abs, sg_abs]
theorem minus_num (a b : Int) : sg (plusB (decide (a < 0)) (!decide (b < 0)) (absN a) (absN b)) (plusN (decide (a < 0)) (!decide (b < 0)) (absN a) (absN b)) = a - b := by
  rw [sg_plus, sg_abs]
  have h : sg (!decide (b < 0)) (absN b) = -b := by
    have := sg_abs b
    unfold sg at *
    by_cases hb : b < 0 <;> simp [hb] at * <;> omega
  omega
theorem big16 (n : Nat) (h : n ≤ 340282366920938463463374607431768211456) : n < 65536 ^ 16 := by omega
set_option maxHeartbeats 2000000 in
theorem numSums_walk (A : Option Addr) (n c : Nat) (l : List Int) (w : World) (hr : Rd w A n (ints l)) (hl : I64 l) (hb : n * 8 ≤ 140737488351232) :
    Calls Try.prog 6 #[.slice A n c] w fun e w' => e = .returned (.bool true) ∧ Ext w w' := by
  have s1 := test4.1
  have s2 := test4.2
  have R4 : ∀ W : World, Rd (W.alloc (.cells #[.int .i64 4, .int .i64 (-6)] 2)) (some ⟨W.heap.size, 0, none⟩) 2 (ints [4, -6]) := fun W => rd_new W _ _
  have I4 : I64 [4, -6] := by intro v hv; simp at hv; omega
  have hn : n ≤ maxLen := by simp only [maxLen]; omega
  have hlen : l.length = n := by have := hr.1; simpa [ints] using this
  have v1 := sumOf_eq l hl (by omega)
  have v2 := sumFits_eq l hl (by omega)
  have v3 := sumL_sg l
  have v4 := big16 (sumL l).2 (Nat.le_trans (sumL_le l hl) (by omega))
  have V1 := Lib.hid v1
  have V2 := Lib.hid v2
  have V3 := Lib.hid v3
  have V4 := Lib.hid v4
  clear v1 v2 v3 v4 hlen
  go_enter Try.func6, Try.ntmps6
  go_wp2_with (first
    | (go_at_call 12; with_reducible refine (sum_any _ 2 2 [4, -6] _ (R4 _) I4 (by decide)).mono ?_; rintro e w1 ⟨rfl, hx1⟩)
    | (go_at_call 13; go_must (with_reducible refine (head_any _).mono ?_); rintro e w2 ⟨rfl, hx2⟩; have hxa : Ext w w2 := (by repeat (first | with_reducible exact Below.refl _ _ | with_reducible assumption | with_reducible refine ExtD ?_ | with_reducible refine ExtDN ?_ | with_reducible refine ExtA ?_ | (with_reducible refine ExtR ?_ ?_; (first | omega | (dsimp only; omega) | (simp; done) | (simp; omega))) | (with_reducible refine ExtS ?_ ?_; (first | omega | (dsimp only; omega) | (simp; done) | (simp; omega))) | with_reducible refine Ext.tr ?_ (by with_reducible assumption))); have R2 := Lib.hid (hr.ext hxa))
    | (at_builtin; go_must (refine wpL_copy rfl (.tmp 25) (.tmp 26) _ rfl 2 _ 1 8 Try.underlying22 el_i64 A n c _ rfl rfl R2.out.toN (one_ints l) (by omega) hn ?_); intro A3 c3 w3 hx3 hown3; have R3 := Lib.hid (Rd.of_own hown3))
    | (go_at_call 21; go_must (with_reducible refine (sum_long A n c l _ (R2.out.ext hx3) hl hn).mono ?_); rintro e w4 ⟨rfl, hx4⟩)
    | (go_at_call 16; go_must (with_reducible refine (fits_any _ _ _ V4.out).mono ?_); rintro e w5 ⟨rfl, hx5⟩)
    | (go_at_call 12; go_must (with_reducible refine (sum_any A3 n c3 l _ (R3.out.ext (hx4.tr hx5)) hl hn).mono ?_); rintro e w6 ⟨rfl, hx6⟩; have q1 := V1.out; have q2 := V2.out; have q3 := V3.out)
    | (go_at_call 22; go_must (with_reducible refine (same_any A3 A n c3 n c l l _ (R3.out.ext ((hx4.tr hx5).tr hx6)) (R2.out.ext (hx3.tr ((hx4.tr hx5).tr hx6))) hn).mono ?_); rintro e w7 ⟨rfl, hx7⟩))
  go_ret
  exact ⟨by simp, (by repeat (first | with_reducible exact Below.refl _ _ | with_reducible assumption | with_reducible refine ExtD ?_ | with_reducible refine ExtDN ?_ | with_reducible refine ExtA ?_ | (with_reducible refine ExtR ?_ ?_; (first | omega | (dsimp only; omega) | (simp; done) | (simp; omega))) | (with_reducible refine ExtS ?_ ?_; (first | omega | (dsimp only; omega) | (simp; done) | (simp; omega))) | with_reducible refine Ext.tr ?_ (by with_reducible assumption)))⟩
end Go.Proofs.Ytedmbebieijofaa
