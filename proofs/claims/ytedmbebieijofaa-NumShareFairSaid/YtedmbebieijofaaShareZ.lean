/-
  The walk of the law NumShareWhole: the shares that are given.
-/
import Derived.Test.YtedmbebieijofaaShareY
namespace Go.Proofs.Ytedmbebieijofaa
open Go.RowKit
set_option linter.unusedVariables false
set_option linter.unusedSimpArgs false
theorem sum_range (f : Nat → Nat) : ∀ n, ((List.range n).map fun i => (f i : Int)).sum = ((sumF f n : Nat) : Int)
  | 0 => rfl
  | n + 1 => by simp [List.range_succ, sum_range f n, sumF]
theorem shList_sum (T : Nat) (l : List Int) (hS : 0 < shS l) : (shList T l).sum = (T : Int) := by unfold shList; rw [sum_range, share_sum T l hS]
theorem share_le (T : Nat) (l : List Int) (hS : 0 < shS l) (i : Nat) (hi : i < l.length) : shareN T l i ≤ T := by
  have h1 : shareN T l i ≤ sumF (shareN T l) l.length := sumF_one_le hi
  rwa [share_sum T l hS] at h1
theorem shList_i64 (T : Nat) (l : List Int) (hS : 0 < shS l) (hT : T ≤ 9223372036854775807) : I64 (shList T l) := fun v hv => by
  unfold shList at hv
  obtain ⟨i, hi, rfl⟩ := List.mem_map.1 hv
  have := share_le T l hS i (by simpa using hi)
  omega
def WhS (w : World) (n : Nat) (right i : Value) (wr : World) : Prop := ∃ k : Nat, k ≤ n ∧ i = .int .i64 k ∧ right = .bool true ∧ Ext w wr
def WhT (w : World) (n : Nat) (i : Value) (wr : World) : Prop := ∃ k : Nat, k ≤ n ∧ i = .int .i64 k ∧ Ext w wr
set_option maxRecDepth 100000 in
set_option maxHeartbeats 4000000 in
theorem whole_ok (T : Nat) (A : Option Addr) (n c : Nat) (l : List Int) (w : World) (hT : T ≤ 9223372036854775807) (hr : Rd w A n (ints l)) (hl : I64 l) (hok : shOk (T : Int) l) :
    Calls Try.prog 9 #[.int .i64 (T : Int), .slice A n c] w fun e w' => e = .returned (.bool true) ∧ Ext w w' := by
  have hlen : l.length = n := by have := hr.1; simpa [ints] using this
  have hn64 : n ≤ 64 := by have := hok.2.1; omega
  have hn : n ≤ maxLen := by simp only [maxLen]; omega
  obtain ⟨hs1, hs2, hs3⟩ := ok_sum _ l hl hok
  have Hok := Lib.hid hok
  have Hlen := Lib.hid hlen
  have Hr := Lib.hid hr
  have Hall := Lib.hid hok.2.2.1
  obtain ⟨S, HS⟩ : ∃ S : Nat, Hid (S = shS l) := ⟨_, rfl⟩
  have hsum : ∀ (A : Option Addr) (c : Nat) (w : World), Rd w A n (ints l) → Calls Try.prog 12 #[.slice A n c] w fun e w' => e = .returned (.tuple #[.int .i64 (S : Int), .bool true]) ∧ Ext w w' := fun A c w hr => by
    have h1 := sum_any A n c l w hr hl hn
    rw [hs1, hok.2.2.2.1, ← HS.out] at h1
    exact h1
  have hsum2 : ∀ (A : Option Addr) (c : Nat) (w : World), Rd w A n (ints (shList T l)) → Calls Try.prog 12 #[.slice A n c] w fun e w' => e = .returned (.tuple #[.int .i64 (T : Int), .bool true]) ∧ Ext w w' := fun A c w hr => by
    have hi := shList_i64 T l hs2 hT
    have h1 := sum_any A n c _ w hr hi hn
    have hf : fits64 (T : Int) = true := by unfold fits64; simp; omega
    rw [sumOf_eq _ hi (by rw [shList_len]; omega), sumFits_eq _ hi (by rw [shList_len]; omega), shList_sum T l hs2, hf, show nf (T : Int) = (T : Int) by unfold nf; rw [hf]; rfl] at h1
    exact h1
  have Hsum := Lib.hid hsum
  have Hsum2 := Lib.hid hsum2
  have HS2 := Lib.hid hs2
  have d1 : decide (0 < S) = true := by rw [HS.out]; simp; omega
  have d2 : decide ((n : Int) ≤ 64) = true := by simp; omega
  have H1 := Lib.hid (one_ints l)
  have H2 := Lib.hid (one_ints (shList T l))
  have htn : Int.toNat (T : Int) = T := rfl
  clear hok hlen hsum hsum2 hs1 hs2 hs3 hr
  go_enter Try.func9, Try.ntmps9
  go_wp2_with (first
    | (go_at_call 25; go_must (with_reducible refine (shares_any _).mono ?_); rintro e w1 ⟨rfl, hx1⟩)
    | (at_builtin; go_must (refine wpL_copy rfl (.tmp 18) (.tmp 19) _ rfl 2 _ 1 8 Try.underlying22 el_i64 A n c _ rfl rfl (Hr.out.ext hx1).toN (one_ints l) (by omega) hn ?_); intro A3 c3 w3 hx3 hown3; have R3 := Lib.hid (Rd.of_own hown3))
    | (go_at_call 27; go_must (with_reducible refine (share_ok (T : Int) A3 n c3 l _ (by omega) (by omega) R3.out hl hn Hok.out).mono ?_); rintro e w4 ⟨g, rfl, hx4, hg4, hb4⟩)
    | (go_at_call 12; go_must (with_reducible refine (Hsum.out A3 c3 _ (R3.out.ext hx4)).mono ?_); rintro e w5 ⟨rfl, hx5⟩))
  rw [htn] at hb4
  have HP := Lib.hid (rd_share Hlen.out (hx5.blk hb4))
  have hx0 : Ext w w5 := (by repeat (first | with_reducible exact Below.refl _ _ | with_reducible assumption | with_reducible refine ExtD ?_ | with_reducible refine ExtDN ?_ | with_reducible refine ExtA ?_ | (with_reducible refine ExtR ?_ ?_; (first | omega | (dsimp only; omega) | (simp; done) | (simp; omega))) | (with_reducible refine ExtS ?_ ?_; (first | omega | (dsimp only; omega) | (simp; done) | (simp; omega))) | with_reducible refine Ext.tr ?_ (by with_reducible assumption)))
  clear hown3 hg4 hb4 hx1 hx3 hx4 hx5
  go_loopw [10, 48] (fun right i wr => WhS w5 n right i wr) (fun _ i _ => n - (intOf i).toNat)
  case atStart => exact ⟨0, by omega, rfl, rfl, (by repeat (first | with_reducible exact Below.refl _ _ | with_reducible assumption | with_reducible refine ExtD ?_ | with_reducible refine ExtDN ?_ | with_reducible refine ExtA ?_ | (with_reducible refine ExtR ?_ ?_; (first | omega | (dsimp only; omega) | (simp; done) | (simp; omega))) | (with_reducible refine ExtS ?_ ?_; (first | omega | (dsimp only; omega) | (simp; done) | (simp; omega))) | with_reducible refine Ext.tr ?_ (by with_reducible assumption)))⟩
  case round =>
    obtain ⟨k, hk, rfl, rfl, hxr⟩ := hrel
    by_cases hlt : k < n
    · obtain ⟨B, O, rfl, hc1⟩ := at_ints (Hr.out.ext (hx0.tr hxr)) hlt
      obtain ⟨x, HX⟩ : ∃ x, Hid (x = l.getD k 0) := ⟨_, rfl⟩
      rw [← HX.out] at hc1
      have dx : decide (0 ≤ x) = true := by
        rw [HX.out, List.getD_eq_getElem?_getD, List.getElem?_eq_getElem (by have := Hlen.out; omega)]
        simpa using Hall.out _ (List.getElem_mem _)
      go_wp2_with fail
      go_roundw
      case rel => exact ⟨k + 1, by omega, by go_num, rfl, (by repeat (first | with_reducible exact Below.refl _ _ | with_reducible assumption | with_reducible refine ExtD ?_ | with_reducible refine ExtDN ?_ | with_reducible refine ExtA ?_ | (with_reducible refine ExtR ?_ ?_; (first | omega | (dsimp only; omega) | (simp; done) | (simp; omega))) | (with_reducible refine ExtS ?_ ?_; (first | omega | (dsimp only; omega) | (simp; done) | (simp; omega))) | with_reducible refine Ext.tr ?_ (by with_reducible assumption)))⟩
      case measure => simp [intOf]; omega
    · have hkn : k = n := by omega
      subst hkn
      have HP2 := Lib.hid (HP.out.ext hxr)
      go_wp2_with (first
        | (at_builtin; go_must (refine wpL_copy rfl (.tmp 72) (.tmp 73) _ rfl 2 _ 1 8 Try.underlying22 el_i64 (some ⟨g, 0, none⟩) k k _ rfl rfl HP2.out.toN H2.out (by omega) hn ?_); intro A6 c6 w6 hx6 hown6; have R6 := Lib.hid (Rd.of_own hown6))
        | (go_at_call 12; go_must (with_reducible refine (Hsum2.out A6 c6 _ R6.out).mono ?_); rintro e w7 ⟨rfl, hx7⟩))
      have hx8 : Ext w w7 := (by repeat (first | with_reducible exact Below.refl _ _ | with_reducible assumption | with_reducible refine ExtD ?_ | with_reducible refine ExtDN ?_ | with_reducible refine ExtA ?_ | (with_reducible refine ExtR ?_ ?_; (first | omega | (dsimp only; omega) | (simp; done) | (simp; omega))) | (with_reducible refine ExtS ?_ ?_; (first | omega | (dsimp only; omega) | (simp; done) | (simp; omega))) | with_reducible refine Ext.tr ?_ (by with_reducible assumption)))
      have HP3 := Lib.hid (HP2.out.ext (hx6.tr hx7))
      clear hown6
      go_loopw [87] (fun i wr => WhT w7 k i wr) (fun i _ => k - (intOf i).toNat)
      case atStart => exact ⟨0, by omega, rfl, (by repeat (first | with_reducible exact Below.refl _ _ | with_reducible assumption | with_reducible refine ExtD ?_ | with_reducible refine ExtDN ?_ | with_reducible refine ExtA ?_ | (with_reducible refine ExtR ?_ ?_; (first | omega | (dsimp only; omega) | (simp; done) | (simp; omega))) | (with_reducible refine ExtS ?_ ?_; (first | omega | (dsimp only; omega) | (simp; done) | (simp; omega))) | with_reducible refine Ext.tr ?_ (by with_reducible assumption)))⟩
      case round =>
        obtain ⟨j, hj, rfl, hxs⟩ := hrel
        by_cases hjk : j < k
        · obtain ⟨B, O, rfl, hc1⟩ := at_ints (Hr.out.ext (hx8.tr hxs)) hjk
          obtain ⟨B2, O2, he, hc2⟩ := at_ints (HP3.out.ext hxs) hjk
          injection he with he
          injection he with he1 he2
          subst he1
          subst he2
          rw [Nat.zero_add] at hc2
          rw [shList_get T l j (by rw [Hlen.out]; exact hjk)] at hc2
          obtain ⟨x, HX⟩ : ∃ x, Hid (x = l.getD j 0) := ⟨_, rfl⟩
          obtain ⟨y, HY⟩ : ∃ y, Hid (y = shareN T l j) := ⟨_, rfl⟩
          rw [← HX.out] at hc1
          rw [← HY.out] at hc2
          by_cases hx0 : x = 0
          · have hy0 : y = 0 := by
              rw [HY.out]
              exact share_zero T l HS2.out j (by rw [Hlen.out]; exact hjk) (by unfold wt; rw [← List.getD_eq_getElem?_getD, ← HX.out, hx0]; rfl)
            rw [hx0] at hc1
            rw [hy0] at hc2
            go_wp2_with fail
            go_roundw
            case rel => exact ⟨j + 1, by omega, by go_num, (by repeat (first | with_reducible exact Below.refl _ _ | with_reducible assumption | with_reducible refine ExtD ?_ | with_reducible refine ExtDN ?_ | with_reducible refine ExtA ?_ | (with_reducible refine ExtR ?_ ?_; (first | omega | (dsimp only; omega) | (simp; done) | (simp; omega))) | (with_reducible refine ExtS ?_ ?_; (first | omega | (dsimp only; omega) | (simp; done) | (simp; omega))) | with_reducible refine Ext.tr ?_ (by with_reducible assumption)))⟩
            case measure => simp [intOf]; omega
          · have tx : (x == 0) = false := by simpa using hx0
            go_wp2_with fail
            go_roundw
            case rel => exact ⟨j + 1, by omega, by go_num, (by repeat (first | with_reducible exact Below.refl _ _ | with_reducible assumption | with_reducible refine ExtD ?_ | with_reducible refine ExtDN ?_ | with_reducible refine ExtA ?_ | (with_reducible refine ExtR ?_ ?_; (first | omega | (dsimp only; omega) | (simp; done) | (simp; omega))) | (with_reducible refine ExtS ?_ ?_; (first | omega | (dsimp only; omega) | (simp; done) | (simp; omega))) | with_reducible refine Ext.tr ?_ (by with_reducible assumption)))⟩
            case measure => simp [intOf]; omega
        · have hkj : j = k := by omega
          subst hkj
          go_wp2_with fail
          go_ret
          exact ⟨rfl, (by repeat (first | with_reducible exact Below.refl _ _ | with_reducible assumption | with_reducible refine ExtD ?_ | with_reducible refine ExtDN ?_ | with_reducible refine ExtA ?_ | (with_reducible refine ExtR ?_ ?_; (first | omega | (dsimp only; omega) | (simp; done) | (simp; omega))) | (with_reducible refine ExtS ?_ ?_; (first | omega | (dsimp only; omega) | (simp; done) | (simp; omega))) | with_reducible refine Ext.tr ?_ (by with_reducible assumption)))⟩
theorem numShareWhole_walk (t : Int) (A : Option Addr) (n c : Nat) (l : List Int) (w : World) (ht0 : -9223372036854775808 ≤ t) (ht1 : t ≤ 9223372036854775807) (hr : Rd w A n (ints l)) (hl : I64 l) (hb : n * 8 ≤ 140737488351232) :
    Calls Try.prog 9 #[.int .i64 t, .slice A n c] w fun e w' => e = .returned (.bool true) ∧ Ext w w' := by
  by_cases hok : shOk t l
  · obtain ⟨T, rfl⟩ : ∃ T : Nat, t = (T : Int) := ⟨t.toNat, by have := hok.1; omega⟩
    exact whole_ok T A n c l w (by omega) hr hl hok
  · exact whole_no t A n c l w ht0 ht1 hr hl hb hok
end Go.Proofs.Ytedmbebieijofaa
