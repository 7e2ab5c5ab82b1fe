/-
  The walk of the law NumShareWhole.
-/
import Derived.Test.YtedmbebieijofaaShareX
namespace Go.Proofs.Ytedmbebieijofaa
open Go.RowKit
set_option linter.unusedVariables false
set_option linter.unusedSimpArgs false
def WhR (w : World) (t : Int) (n : Nat) (l : List Int) (right i : Value) (wr : World) : Prop :=
  ∃ (k : Nat) (b : Bool), k ≤ n ∧ i = .int .i64 k ∧ right = .bool b ∧ (b = true → 0 ≤ t ∧ n ≤ 64 ∧ sumFits l = true ∧ 0 < sumOf l) ∧ (b = true → ∀ j, j < k → 0 ≤ l[j]?.getD 0) ∧ Ext w wr
theorem nonneg_of (l : List Int) (n : Nat) (hn : l.length = n) (h : ∀ j, j < n → 0 ≤ l[j]?.getD 0) : NonNeg l := fun v hv => by
  obtain ⟨j, hj, rfl⟩ := List.mem_iff_getElem.1 hv
  have := h j (by omega)
  rw [List.getElem?_eq_getElem hj] at this
  simpa using this
set_option maxRecDepth 100000 in
set_option maxHeartbeats 4000000 in
theorem whole_no (t : Int) (A : Option Addr) (n c : Nat) (l : List Int) (w : World) (ht0 : -9223372036854775808 ≤ t) (ht1 : t ≤ 9223372036854775807) (hr : Rd w A n (ints l)) (hl : I64 l) (hb : n * 8 ≤ 140737488351232) (hno : ¬ shOk t l) :
    Calls Try.prog 9 #[.int .i64 t, .slice A n c] w fun e w' => e = .returned (.bool true) ∧ Ext w w' := by
  have hn : n ≤ maxLen := by simp only [maxLen]; omega
  have hlen : l.length = n := by have := hr.1; simpa [ints] using this
  have Hno := Lib.hid hno
  have Hlen := Lib.hid hlen
  have Hr := Lib.hid hr
  clear hno hlen
  go_enter Try.func9, Try.ntmps9
  go_wp2_with (first
    | (go_at_call 25; go_must (with_reducible refine (shares_any _).mono ?_); rintro e w1 ⟨rfl, hx1⟩)
    | (at_builtin; go_must (refine wpL_copy rfl (.tmp 18) (.tmp 19) _ rfl 2 _ 1 8 Try.underlying22 el_i64 A n c _ rfl rfl (Hr.out.ext hx1).toN (one_ints l) (by omega) hn ?_); intro A3 c3 w3 hx3 hown3; have R3 := Lib.hid (Rd.of_own hown3))
    | (go_at_call 27; go_must (with_reducible refine (share_no t A3 n c3 l _ ht0 ht1 R3.out hl hn Hno.out).mono ?_); rintro e w4 ⟨rfl, hx4⟩)
    | (go_at_call 12; go_must (with_reducible refine (sum_any A3 n c3 l _ (R3.out.ext hx4) hl hn).mono ?_); rintro e w5 ⟨rfl, hx5⟩))
  all_goals
    have hx0 : Ext w w5 := (by repeat (first | with_reducible exact Below.refl _ _ | with_reducible assumption | with_reducible refine ExtD ?_ | with_reducible refine ExtDN ?_ | with_reducible refine ExtA ?_ | (with_reducible refine ExtR ?_ ?_; (first | omega | (dsimp only; omega) | (simp; done) | (simp; omega))) | (with_reducible refine ExtS ?_ ?_; (first | omega | (dsimp only; omega) | (simp; done) | (simp; omega))) | with_reducible refine Ext.tr ?_ (by with_reducible assumption)))
    go_loopw [10, 48] (fun right i wr => WhR w t n l right i wr) (fun _ i _ => n - (intOf i).toNat)
    case atStart =>
      refine ⟨0, _, by omega, rfl, rfl, fun h => ?_, fun _ j h => by omega, hx0⟩
      first
        | exact ⟨by omega, by omega, by assumption, by simpa using h⟩
        | (simp at h; done)
        | simp_all
    case round =>
      obtain ⟨k, b, hk, rfl, rfl, hb1, hb2, hxr⟩ := hrel
      have Hb1 := Lib.hid hb1
      have Hb2 := Lib.hid hb2
      clear hb1 hb2
      by_cases hlt : k < n
      · obtain ⟨B, O, rfl, hc1⟩ := at_ints (Hr.out.ext hxr) hlt
        obtain ⟨x, HX⟩ : ∃ x, Hid (x = l.getD k 0) := ⟨_, rfl⟩
        rw [← HX.out] at hc1
        cases b
        · go_wp2_with fail
          go_roundw
          case rel => exact ⟨k + 1, false, by omega, by go_num, rfl, fun h => by simp at h, fun h => by simp at h, (by repeat (first | with_reducible exact Below.refl _ _ | with_reducible assumption | with_reducible refine ExtD ?_ | with_reducible refine ExtDN ?_ | with_reducible refine ExtA ?_ | (with_reducible refine ExtR ?_ ?_; (first | omega | (dsimp only; omega) | (simp; done) | (simp; omega))) | (with_reducible refine ExtS ?_ ?_; (first | omega | (dsimp only; omega) | (simp; done) | (simp; omega))) | with_reducible refine Ext.tr ?_ (by with_reducible assumption)))⟩
          case measure => simp [intOf]; omega
        · go_wp2_with fail
          go_roundw
          case rel =>
            refine ⟨k + 1, decide (0 ≤ x), by omega, by go_num, rfl, fun _ => Hb1.out rfl, fun hx j hj => ?_, (by repeat (first | with_reducible exact Below.refl _ _ | with_reducible assumption | with_reducible refine ExtD ?_ | with_reducible refine ExtDN ?_ | with_reducible refine ExtA ?_ | (with_reducible refine ExtR ?_ ?_; (first | omega | (dsimp only; omega) | (simp; done) | (simp; omega))) | (with_reducible refine ExtS ?_ ?_; (first | omega | (dsimp only; omega) | (simp; done) | (simp; omega))) | with_reducible refine Ext.tr ?_ (by with_reducible assumption)))⟩
            by_cases h : j = k
            · subst h; have h3 := HX.out; rw [List.getD_eq_getElem?_getD] at h3; rw [← h3]; simpa using hx
            · exact Hb2.out rfl j (by omega)
          case measure => simp [intOf]; omega
      · have hkn : k = n := by omega
        subst hkn
        have hbf : b = false := by
          cases b
          · rfl
          · exfalso
            have h1 := Hb1.out rfl
            exact Hno.out ⟨h1.1, by rw [Hlen.out]; exact h1.2.1, nonneg_of l k Hlen.out (Hb2.out rfl), h1.2.2.1, by omega⟩
        subst hbf
        go_wp2_with fail
        go_ret
        exact ⟨rfl, (by repeat (first | with_reducible exact Below.refl _ _ | with_reducible assumption | with_reducible refine ExtD ?_ | with_reducible refine ExtDN ?_ | with_reducible refine ExtA ?_ | (with_reducible refine ExtR ?_ ?_; (first | omega | (dsimp only; omega) | (simp; done) | (simp; omega))) | (with_reducible refine ExtS ?_ ?_; (first | omega | (dsimp only; omega) | (simp; done) | (simp; omega))) | with_reducible refine Ext.tr ?_ (by with_reducible assumption)))⟩
end Go.Proofs.Ytedmbebieijofaa
