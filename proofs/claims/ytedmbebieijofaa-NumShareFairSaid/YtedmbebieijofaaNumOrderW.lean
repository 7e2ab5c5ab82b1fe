/-
  The walk of the law NumOrder.
-/
import Derived.Test.YtedmbebieijofaaNumW2
import Derived.Test.YtedmbebieijofaaNumP
namespace Go.Proofs.Ytedmbebieijofaa
open Go.RowKit
set_option linter.unusedVariables false
set_option linter.unusedSimpArgs false
theorem el_i64 : Elem Try.prog 2 (.int .i64 0) 1 8 := ⟨by kernel_rfl, rfl, by decide⟩
theorem test4 : sumOf [4, -6] = -2 ∧ sumFits [4, -6] = true := by decide +kernel
/-- The relation of the loop that turns the list round. -/
def OrdR (w : World) (base n : Nat) (l : List Int) (v i : Value) (wr : World) : Prop :=
  ∃ k : Nat, k ≤ n ∧ i = .int .i64 ((n : Int) - 1 - k) ∧ Ext w wr ∧ base ≤ wr.heap.size ∧ wr.ownsRow base 2 1 v k (ints (l.reverse.take k))
theorem rev_snoc (l : List Int) (k : Nat) (h : k < l.length) : ints (l.reverse.take (k + 1)) = ints (l.reverse.take k) ++ [.int .i64 (l.getD (l.length - 1 - k) 0)] := by
  rw [List.take_succ_eq_append_getElem (by simpa using h)]
  simp [ints, List.getD, List.getElem?_eq_getElem (show l.length - 1 - k < l.length by omega)]
set_option maxHeartbeats 1000000 in
theorem numOrder_walk (A : Option Addr) (n c : Nat) (l : List Int) (w : World) (hr : Rd w A n (ints l)) (hl : I64 l) (hb : n * 8 ≤ 140737488351232) :
    Calls Try.prog 3 #[.slice A n c] w fun e w' => e = .returned (.bool true) ∧ Ext w w' := by
  have s1 := test4.1
  have s2 := test4.2
  have R4 : ∀ W : World, Rd (W.alloc (.cells #[.int .i64 4, .int .i64 (-6)] 2)) (some ⟨W.heap.size, 0, none⟩) 2 (ints [4, -6]) := fun W => rd_new W _ _
  have I4 : I64 [4, -6] := by intro v hv; simp at hv; omega
  go_enter Try.func3, Try.ntmps3
  go_wp2_with (go_at_call 12; go_must (with_reducible refine (sum_any _ 2 2 [4, -6] _ (R4 _) I4 (by decide)).mono ?_); rintro e w1 ⟨rfl, hx1⟩)
  clear s1 s2 R4 I4
  have hx0 : Ext w w1 := (by repeat (first | with_reducible exact Below.refl _ _ | with_reducible assumption | with_reducible refine ExtD ?_ | with_reducible refine ExtDN ?_ | with_reducible refine ExtA ?_ | (with_reducible refine ExtR ?_ ?_; (first | omega | (dsimp only; omega) | (simp; done) | (simp; omega))) | (with_reducible refine ExtS ?_ ?_; (first | omega | (dsimp only; omega) | (simp; done) | (simp; omega))) | with_reducible refine Ext.tr ?_ (by with_reducible assumption)))
  go_loopw [5, 6] (fun v i wr => OrdR w w1.heap.size n l v i wr) (fun _ i _ => (intOf i + 1).toNat)
  case atStart => exact ⟨0, by omega, by simp, (by repeat (first | with_reducible exact Below.refl _ _ | with_reducible assumption | with_reducible refine ExtD ?_ | with_reducible refine ExtDN ?_ | with_reducible refine ExtA ?_ | (with_reducible refine ExtR ?_ ?_; (first | omega | (dsimp only; omega) | (simp; done) | (simp; omega))) | (with_reducible refine ExtS ?_ ?_; (first | omega | (dsimp only; omega) | (simp; done) | (simp; omega))) | with_reducible refine Ext.tr ?_ (by with_reducible assumption))), Nat.le_refl _, World.ownsRow_nil _ _ _ _⟩
  case round =>
    obtain ⟨k, hk, rfl, hxr, hbr, hown⟩ := hrel
    by_cases hlt : k < n
    · obtain ⟨b, o, rfl, hcell⟩ := at_ints (hr.ext hxr) (show n - 1 - k < n by omega)
      have hn1 : k < l.length := by have := hr.1; simp [ints] at this; omega
      have hll : l.length = n := by have := hr.1; simpa [ints] using this
      have hone : ∀ x : Int, (Value.int .i64 x).oneCell' = true := fun _ => rfl
      have Hs := Lib.hid ((by simpa [List.getD] using rev_snoc l k hn1 : ints (l.reverse.take (k + 1)) = ints (l.reverse.take k) ++ [.int .i64 (l[l.length - 1 - k]?.getD 0)]))
      have R1 := Lib.hid (fun x : Int => (rd_new wr #[.int .i64 x] 2).toN)
      have hown1 := Lib.hid (hown.alloc (.cells #[.int .i64 (l[n - 1 - k]?.getD 0)] 2))
      rw [hll] at Hs
      clear hown hll hone
      go_wp2_with (at_builtin; go_must (refine wpL_append rfl (.tmp 29) (.tmp 34) _ rfl w1.heap.size 2 _ 1 8 Try.underlying22 el_i64 _ k _ rfl hown1.out _ 1 1 [_] rfl (R1.out _) (by intro u hu; simp at hu; subst hu; rfl) (k + 1) _ rfl Hs.out.symm (by simp only [maxLen]; omega) (by omega) (by simp; omega) ?_); intro v2 w2 hown2 hg2 hat2)
      go_roundw
      case rel =>
        refine ⟨k + 1, by omega, by go_num, Ext.grown (by repeat (first | with_reducible exact Below.refl _ _ | with_reducible assumption | with_reducible refine ExtD ?_ | with_reducible refine ExtDN ?_ | with_reducible refine ExtA ?_ | (with_reducible refine ExtR ?_ ?_; (first | omega | (dsimp only; omega) | (simp; done) | (simp; omega))) | (with_reducible refine ExtS ?_ ?_; (first | omega | (dsimp only; omega) | (simp; done) | (simp; omega))) | with_reducible refine Ext.tr ?_ (by with_reducible assumption))) hg2 fun g hg => ?_, Nat.le_trans (by simp; omega) hg2.size, hown2⟩
        have := own_lt hown1.out g hg
        have := hx0.size
        omega
      case measure => simp [intOf]; omega
    · have hkn : k = n := by omega
      subst hkn
      have htk : l.reverse.take k = l.reverse := List.take_of_length_le (by have := hr.1; simp [ints] at this; simp; omega)
      rw [htk] at hown
      obtain ⟨A5, c5, rfl⟩ := own_slice hown
      have hs1 := sumOf_eq l hl (by have := hr.1; simp [ints] at this; omega)
      have hs2 := sumOf_eq _ hl.rev (by have := hr.1; simp [ints] at this; simp; omega)
      have hs3 := sumFits_eq l hl (by have := hr.1; simp [ints] at this; omega)
      have hs4 := sumFits_eq _ hl.rev (by have := hr.1; simp [ints] at this; simp; omega)
      rw [sum_rev] at hs2 hs4
      rw [← hs1] at hs2
      rw [← hs3] at hs4
      clear hs1 hs3 htk
      have Hs2 := Lib.hid hs2
      have Hs4 := Lib.hid hs4
      clear hs2 hs4
      have Rl := Lib.hid (hr.ext hxr).toN
      have Rb := Lib.hid (Rd.of_own hown)
      have W9 := Lib.hid (World.ownsRow_made wr (base := wr.heap.size) (e := 2) (size := 1) #[] 0 (Nat.le_refl _) (by decide) rfl)
      have E9 : Ext wr (wr.alloc (.cells #[] 2)) := (by repeat (first | with_reducible exact Below.refl _ _ | with_reducible assumption | with_reducible refine ExtD ?_ | with_reducible refine ExtDN ?_ | with_reducible refine ExtA ?_ | (with_reducible refine ExtR ?_ ?_; (first | omega | (dsimp only; omega) | (simp; done) | (simp; omega))) | (with_reducible refine ExtS ?_ ?_; (first | omega | (dsimp only; omega) | (simp; done) | (simp; omega))) | with_reducible refine Ext.tr ?_ (by with_reducible assumption)))
      have one : ∀ l : List Int, ∀ u ∈ ints l, u.oneCell' = true := fun l u hu => by simp [ints] at hu; obtain ⟨x, _, rfl⟩ := hu; rfl
      have One := Lib.hid (one l)
      clear one
      go_wp2_with (first
        | (at_builtin; go_must (refine wpL_append rfl (.tmp 37) (.tmp 38) _ rfl wr.heap.size 2 _ 1 8 Try.underlying22 el_i64 _ 0 _ rfl W9.out A k c _ rfl (Rl.out.ext E9) One.out k (ints l) (by omega) (by simp) (by simp only [maxLen]; omega) (by omega) (by simp) ?_); intro v3 w3 hown3 hg3 hat3; obtain ⟨A3, c3, rfl⟩ := own_slice hown3; have R3 := Lib.hid (Rd.of_own hown3)
           have E3 : Ext wr w3 := Ext.grown E9 hg3 (fun g hg => own_lt W9.out g hg))
        | (go_at_call 12; with_reducible refine (sum_any A3 k c3 l _ R3.out hl (by simp only [maxLen]; omega)).mono ?_; rintro e w4 ⟨rfl, hx4⟩)
        | (go_at_call 12; go_must (with_reducible refine (sum_any A5 k c5 l.reverse _ (Rb.out.ext (E3.tr hx4)) hl.rev (by simp only [maxLen]; omega)).mono ?_); rintro e w5 ⟨rfl, hx5⟩; have hs2 := Hs2.out; have hs4 := Hs4.out))
      go_ret
      exact ⟨by simp, Ext.tr hxr (Ext.tr E3 (Ext.tr hx4 hx5))⟩
end Go.Proofs.Ytedmbebieijofaa
