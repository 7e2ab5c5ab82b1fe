/-
  The walk of the law NumShareFair.
-/
import Derived.Test.YtedmbebieijofaaShareZ
namespace Go.Proofs.Ytedmbebieijofaa
open Go.RowKit
set_option linter.unusedVariables false
set_option linter.unusedSimpArgs false
theorem md_nat (T x S : Nat) (hS : 0 < S) (hx : x ≤ S) (hT : T ≤ 9223372036854775807) : mdV (T : Int) (x : Int) (S : Int) = ((T * x / S : Nat) : Int) ∧ mdF (T : Int) (x : Int) (S : Int) = true := by
  have h1 : mdQ (T : Int) (x : Int) (S : Int) = ((T * x / S : Nat) : Int) := by
    unfold mdQ
    rw [show decide ((T : Int) < 0) = false by simp, show decide ((x : Int) < 0) = false by simp, show decide ((S : Int) < 0) = false by simp]
    simp [sg, absN]
  have h2 : T * x / S ≤ T := by
    refine Nat.div_le_of_le_mul ?_
    rw [Nat.mul_comm S]
    exact Nat.mul_le_mul_left T hx
  have h3 : mdF (T : Int) (x : Int) (S : Int) = true := by
    unfold mdF
    rw [if_neg (by omega), h1]
    generalize T * x / S = e at h2
    unfold fits64
    rw [decide_eq_true_eq]
    omega
  refine ⟨?_, h3⟩
  unfold mdV
  rw [h3, h1]
  rfl
set_option maxRecDepth 100000 in
set_option maxHeartbeats 4000000 in
theorem fair_no (t : Int) (A : Option Addr) (n c : Nat) (l : List Int) (w : World) (ht0 : -9223372036854775808 ≤ t) (ht1 : t ≤ 9223372036854775807) (hr : Rd w A n (ints l)) (hl : I64 l) (hb : n * 8 ≤ 140737488351232) (hno : ¬ shOk t l) :
    Calls Try.prog 11 #[.int .i64 t, .slice A n c] w fun e w' => e = .returned (.bool true) ∧ Ext w w' := by
  have hn : n ≤ maxLen := by simp only [maxLen]; omega
  have Hno := Lib.hid hno
  have Hr := Lib.hid hr
  clear hno
  go_enter Try.func11, Try.ntmps11
  go_wp2_with (first
    | (go_at_call 25; go_must (with_reducible refine (shares_any _).mono ?_); rintro e w1 ⟨rfl, hx1⟩)
    | (at_builtin; go_must (refine wpL_copy rfl (.tmp 16) (.tmp 17) _ rfl 2 _ 1 8 Try.underlying22 el_i64 A n c _ rfl rfl (Hr.out.ext hx1).toN (one_ints l) (by omega) hn ?_); intro A3 c3 w3 hx3 hown3; have R3 := Lib.hid (Rd.of_own hown3))
    | (go_at_call 27; go_must (with_reducible refine (share_no t A3 n c3 l _ ht0 ht1 R3.out hl hn Hno.out).mono ?_); rintro e w4 ⟨rfl, hx4⟩))
  go_ret
  exact ⟨rfl, (by repeat (first | with_reducible exact Below.refl _ _ | with_reducible assumption | with_reducible refine ExtD ?_ | with_reducible refine ExtDN ?_ | with_reducible refine ExtA ?_ | (with_reducible refine ExtR ?_ ?_; (first | omega | (dsimp only; omega) | (simp; done) | (simp; omega))) | (with_reducible refine ExtS ?_ ?_; (first | omega | (dsimp only; omega) | (simp; done) | (simp; omega))) | with_reducible refine Ext.tr ?_ (by with_reducible assumption)))⟩
def FaR (w : World) (n : Nat) (i : Value) (wr : World) : Prop := ∃ k : Nat, k ≤ n ∧ i = .int .i64 k ∧ Ext w wr
set_option maxRecDepth 100000 in
set_option maxHeartbeats 4000000 in
theorem fair_ok (T : Nat) (A : Option Addr) (n c : Nat) (l : List Int) (w : World) (hT : T ≤ 9223372036854775807) (hr : Rd w A n (ints l)) (hl : I64 l) (hok : shOk (T : Int) l) :
    Calls Try.prog 11 #[.int .i64 (T : Int), .slice A n c] w fun e w' => e = .returned (.bool true) ∧ Ext w w' := by
  have hlen : l.length = n := by have := hr.1; simpa [ints] using this
  have hn64 : n ≤ 64 := by have := hok.2.1; omega
  have hn : n ≤ maxLen := by simp only [maxLen]; omega
  obtain ⟨hs1, hs2, hs3⟩ := ok_sum _ l hl hok
  have Hok := Lib.hid hok
  have Hlen := Lib.hid hlen
  have Hr := Lib.hid hr
  have Hall := Lib.hid hok.2.2.1
  obtain ⟨S, HS⟩ : ∃ S : Nat, Hid (S = shS l) := ⟨_, rfl⟩
  have hsum : ∀ (A : Option Addr) (c : Nat) (w : World), Rd w A n (ints l) → Calls Try.prog 12 #[.slice A n c] w fun e w' => e = .returned (.tuple #[.int .i64 (S : Int), .bool true]) ∧ Ext w w' := fun A c w hr => by
    have h1 := sum_any A n c l w hr hl hn
    rw [hs1, hok.2.2.2.1, ← HS.out] at h1
    exact h1
  have hget : ∀ j, j < n → l.getD j 0 = ((wt l j : Nat) : Int) := fun j hj => by
    have h1 := hok.2.2.1 _ (List.getElem_mem (show j < l.length by omega))
    unfold wt
    rw [List.getD_eq_getElem?_getD, List.getElem?_eq_getElem (by omega)]
    simp
    omega
  have hmd : ∀ j, j < n → ∀ w : World, Calls Try.prog 15 #[.int .i64 (T : Int), .int .i64 ((wt l j : Nat) : Int), .int .i64 (S : Int)] w fun e w' => e = .returned (.tuple #[.int .i64 ((shQ T l j : Nat) : Int), .bool true]) ∧ Ext w w' := fun j hj w => by
    have h1 := wt_lt l j hl
    have h2 := wt_le l j (by omega)
    rw [HS.out]
    have h3 := muldiv_any (T : Int) ((wt l j : Nat) : Int) ((shS l : Nat) : Int) w (by omega) (by omega) (by omega) (by omega) (by omega) (by omega)
    obtain ⟨h4, h5⟩ := md_nat T (wt l j) (shS l) hs2 h2 hT
    rw [h4, h5] at h3
    exact h3
  have Hsum := Lib.hid hsum
  have Hget := Lib.hid hget
  have Hmd := Lib.hid hmd
  have HS2 := Lib.hid hs2
  have htn : Int.toNat (T : Int) = T := rfl
  clear hok hlen hsum hget hmd hs1 hs2 hs3 hr
  go_enter Try.func11, Try.ntmps11
  go_wp2_with (first
    | (go_at_call 25; go_must (with_reducible refine (shares_any _).mono ?_); rintro e w1 ⟨rfl, hx1⟩)
    | (at_builtin; go_must (refine wpL_copy rfl (.tmp 16) (.tmp 17) _ rfl 2 _ 1 8 Try.underlying22 el_i64 A n c _ rfl rfl (Hr.out.ext hx1).toN (one_ints l) (by omega) hn ?_); intro A3 c3 w3 hx3 hown3; have R3 := Lib.hid (Rd.of_own hown3))
    | (go_at_call 27; go_must (with_reducible refine (share_ok (T : Int) A3 n c3 l _ (by omega) (by omega) R3.out hl hn Hok.out).mono ?_); rintro e w4 ⟨g, rfl, hx4, hg4, hb4⟩)
    | (go_at_call 12; go_must (with_reducible refine (Hsum.out A3 c3 _ (R3.out.ext hx4)).mono ?_); rintro e w5 ⟨rfl, hx5⟩))
  rw [htn] at hb4
  have HP := Lib.hid (rd_share Hlen.out (hx5.blk hb4))
  have hx0 : Ext w w5 := (by repeat (first | with_reducible exact Below.refl _ _ | with_reducible assumption | with_reducible refine ExtD ?_ | with_reducible refine ExtDN ?_ | with_reducible refine ExtA ?_ | (with_reducible refine ExtR ?_ ?_; (first | omega | (dsimp only; omega) | (simp; done) | (simp; omega))) | (with_reducible refine ExtS ?_ ?_; (first | omega | (dsimp only; omega) | (simp; done) | (simp; omega))) | with_reducible refine Ext.tr ?_ (by with_reducible assumption)))
  clear hown3 hg4 hb4 hx1 hx3 hx4 hx5
  go_loopw [43] (fun i wr => FaR w5 n i wr) (fun i _ => n - (intOf i).toNat)
  case atStart => exact ⟨0, by omega, rfl, (by repeat (first | with_reducible exact Below.refl _ _ | with_reducible assumption | with_reducible refine ExtD ?_ | with_reducible refine ExtDN ?_ | with_reducible refine ExtA ?_ | (with_reducible refine ExtR ?_ ?_; (first | omega | (dsimp only; omega) | (simp; done) | (simp; omega))) | (with_reducible refine ExtS ?_ ?_; (first | omega | (dsimp only; omega) | (simp; done) | (simp; omega))) | with_reducible refine Ext.tr ?_ (by with_reducible assumption)))⟩
  case round =>
    obtain ⟨k, hk, rfl, hxr⟩ := hrel
    by_cases hlt : k < n
    · obtain ⟨B, O, rfl, hc1⟩ := at_ints (Hr.out.ext (hx0.tr hxr)) hlt
      obtain ⟨B2, O2, he, hc2⟩ := at_ints (HP.out.ext hxr) hlt
      injection he with he
      injection he with he1 he2
      subst he1
      subst he2
      rw [Nat.zero_add, shList_get T l k (by rw [Hlen.out]; exact hlt)] at hc2
      rw [Hget.out k hlt] at hc1
      have hm := Hmd.out k hlt
      have hnear := share_near T l k
      have hshT := share_le T l HS2.out k (by rw [Hlen.out]; exact hlt)
      obtain ⟨x, HX⟩ : ∃ x, Hid (x = wt l k) := ⟨_, rfl⟩
      obtain ⟨y, HY⟩ : ∃ y, Hid (y = shareN T l k) := ⟨_, rfl⟩
      obtain ⟨q, HQ⟩ : ∃ q, Hid (q = shQ T l k) := ⟨_, rfl⟩
      rw [← HX.out] at hc1 hm
      rw [← HY.out] at hc2 hnear hshT
      rw [← HQ.out] at hm hnear
      have Hm := Lib.hid hm
      have ty : decide (y < q) = false := by simp; omega
      have wy : wrap64 ((y : Int) - (q : Int)) = (y : Int) - (q : Int) := by unfold wrap64; omega
      have ty2 : decide ((1 : Int) < (y : Int) - (q : Int)) = false := by simp; omega
      clear hm
      go_wp2_with (go_at_call 15; go_must (with_reducible refine (Hm.out _).mono ?_); rintro e w6 ⟨rfl, hx6⟩; have hc2 := hx6.cell hc2; have hc1 := hx6.cell hc1)
      have hx7 : Ext w5 w6 := (by repeat (first | with_reducible exact Below.refl _ _ | with_reducible assumption | with_reducible refine ExtD ?_ | with_reducible refine ExtDN ?_ | with_reducible refine ExtA ?_ | (with_reducible refine ExtR ?_ ?_; (first | omega | (dsimp only; omega) | (simp; done) | (simp; omega))) | (with_reducible refine ExtS ?_ ?_; (first | omega | (dsimp only; omega) | (simp; done) | (simp; omega))) | with_reducible refine Ext.tr ?_ (by with_reducible assumption)))
      go_loopw [77] (fun i wr => FaR w6 n i wr) (fun i _ => n - (intOf i).toNat)
      case atStart => exact ⟨0, by omega, rfl, (by repeat (first | with_reducible exact Below.refl _ _ | with_reducible assumption | with_reducible refine ExtD ?_ | with_reducible refine ExtDN ?_ | with_reducible refine ExtA ?_ | (with_reducible refine ExtR ?_ ?_; (first | omega | (dsimp only; omega) | (simp; done) | (simp; omega))) | (with_reducible refine ExtS ?_ ?_; (first | omega | (dsimp only; omega) | (simp; done) | (simp; omega))) | with_reducible refine Ext.tr ?_ (by with_reducible assumption)))⟩
      case round =>
        obtain ⟨j, hj, rfl, hxs⟩ := hrel
        by_cases hjn : j < n
        · obtain ⟨B, O, he, hd1⟩ := at_ints (Hr.out.ext (hx0.tr (hx7.tr hxs))) hjn
          injection he with he
          injection he with he1 he2
          subst he1
          subst he2
          obtain ⟨B2, O2, he, hd2⟩ := at_ints (HP.out.ext (hx7.tr hxs)) hjn
          injection he with he
          injection he with he1 he2
          subst he1
          subst he2
          rw [Nat.zero_add, shList_get T l j (by rw [Hlen.out]; exact hjn)] at hd2
          rw [Hget.out j hjn] at hd1
          have hd3 := hxs.cell hc1
          have hd4 := hxs.cell hc2
          have hmono := share_mono T l HS2.out k j (by rw [Hlen.out]; exact hlt) (by rw [Hlen.out]; exact hjn)
          obtain ⟨x2, HX2⟩ : ∃ x, Hid (x = wt l j) := ⟨_, rfl⟩
          obtain ⟨y2, HY2⟩ : ∃ y, Hid (y = shareN T l j) := ⟨_, rfl⟩
          rw [← HX2.out] at hd1 hmono
          rw [← HY2.out] at hd2 hmono
          rw [← HX.out, ← HY.out] at hmono
          by_cases hxx : x < x2
          · have t1 : decide (x < x2) = true := by simpa using hxx
            have t2 : decide (y2 < y) = false := by have := hmono hxx; simp; omega
            clear hmono hc1 hc2
            go_wp2_with fail
            go_quiet (fail)
            go_wp2_with fail
            go_roundw
            case rel => exact ⟨j + 1, by omega, by go_num, (by repeat (first | with_reducible exact Below.refl _ _ | with_reducible assumption | with_reducible refine ExtD ?_ | with_reducible refine ExtDN ?_ | with_reducible refine ExtA ?_ | (with_reducible refine ExtR ?_ ?_; (first | omega | (dsimp only; omega) | (simp; done) | (simp; omega))) | (with_reducible refine ExtS ?_ ?_; (first | omega | (dsimp only; omega) | (simp; done) | (simp; omega))) | with_reducible refine Ext.tr ?_ (by with_reducible assumption)))⟩
            case measure => simp [intOf]; omega
          · have t1 : decide (x < x2) = false := by simpa using hxx
            clear hmono hc1 hc2
            go_wp2_with fail
            go_quiet (fail)
            go_wp2_with fail
            go_roundw
            case rel => exact ⟨j + 1, by omega, by go_num, (by repeat (first | with_reducible exact Below.refl _ _ | with_reducible assumption | with_reducible refine ExtD ?_ | with_reducible refine ExtDN ?_ | with_reducible refine ExtA ?_ | (with_reducible refine ExtR ?_ ?_; (first | omega | (dsimp only; omega) | (simp; done) | (simp; omega))) | (with_reducible refine ExtS ?_ ?_; (first | omega | (dsimp only; omega) | (simp; done) | (simp; omega))) | with_reducible refine Ext.tr ?_ (by with_reducible assumption)))⟩
            case measure => simp [intOf]; omega
        · have hjn2 : j = n := by omega
          subst hjn2
          go_wp2_with fail
          go_roundw
          case rel => exact ⟨k + 1, by omega, by go_num, (by repeat (first | with_reducible exact Below.refl _ _ | with_reducible assumption | with_reducible refine ExtD ?_ | with_reducible refine ExtDN ?_ | with_reducible refine ExtA ?_ | (with_reducible refine ExtR ?_ ?_; (first | omega | (dsimp only; omega) | (simp; done) | (simp; omega))) | (with_reducible refine ExtS ?_ ?_; (first | omega | (dsimp only; omega) | (simp; done) | (simp; omega))) | with_reducible refine Ext.tr ?_ (by with_reducible assumption)))⟩
          case measure => simp [intOf]; omega
    · have hkn : k = n := by omega
      subst hkn
      go_wp2_with fail
      go_ret
      exact ⟨rfl, (by repeat (first | with_reducible exact Below.refl _ _ | with_reducible assumption | with_reducible refine ExtD ?_ | with_reducible refine ExtDN ?_ | with_reducible refine ExtA ?_ | (with_reducible refine ExtR ?_ ?_; (first | omega | (dsimp only; omega) | (simp; done) | (simp; omega))) | (with_reducible refine ExtS ?_ ?_; (first | omega | (dsimp only; omega) | (simp; done) | (simp; omega))) | with_reducible refine Ext.tr ?_ (by with_reducible assumption)))⟩
theorem numShareFair_walk (t : Int) (A : Option Addr) (n c : Nat) (l : List Int) (w : World) (ht0 : -9223372036854775808 ≤ t) (ht1 : t ≤ 9223372036854775807) (hr : Rd w A n (ints l)) (hl : I64 l) (hb : n * 8 ≤ 140737488351232) :
    Calls Try.prog 11 #[.int .i64 t, .slice A n c] w fun e w' => e = .returned (.bool true) ∧ Ext w w' := by
  by_cases hok : shOk t l
  · obtain ⟨T, rfl⟩ : ∃ T : Nat, t = (T : Int) := ⟨t.toNat, by have := hok.1; omega⟩
    exact fair_ok T A n c l w (by omega) hr hl hok
  · exact fair_no t A n c l w ht0 ht1 hr hl hb hok
end Go.Proofs.Ytedmbebieijofaa
