/-
  The walk of slices.Max at numbers.
-/
import Derived.Test.YtjajbbgebblalaaGreatDoorVlsW
namespace Go.Proofs.YtjajbbgebblalaaGreatDoor
open Go.RowKit
set_option linter.unusedVariables false
set_option linter.unusedSimpArgs false
def maxL : List Nat → Nat
  | [] => 0
  | u :: r => Nat.max u (maxL r)
def MxR (w : World) (n : Nat) (us : List Nat) (v3 v4 : Value) (wr : World) : Prop := ∃ k v : Nat, v4 = .int .i64 (k : Nat) ∧ 1 ≤ k ∧ k ≤ n ∧ v3 = .int .u64 (v : Nat) ∧ (∀ j, j < k → us.getD j 0 ≤ v) ∧ (∃ j, j < k ∧ us.getD j 0 = v) ∧ Ext w wr
set_option maxRecDepth 100000 in
set_option maxHeartbeats 2000000 in
theorem smax_any (A : Option Addr) (n c : Nat) (us : List Nat) (w : World) (hr : Rd w A n (u64s us)) (h0 : 0 < n) (hn : n ≤ maxLen) :
    Calls Tryz.prog 101 #[.slice A n c] w fun e w' => ∃ v : Nat, e = .returned (.int .u64 (v : Nat)) ∧ Ext w w' ∧ v ∈ us ∧ ∀ u ∈ us, u ≤ v := by
  have hlen : us.length = n := by have := hr.1; rw [u64s_len] at this; exact this
  have Hlen := Lib.hid hlen
  have t1 : decide ((n : Int) < 1) = false := by simp; omega
  obtain ⟨b, o, rfl, hc0⟩ := at_u64 hr h0
  have HR := Lib.hid hr
  rw [Nat.add_zero] at hc0
  obtain ⟨x0, hx0⟩ : ∃ x, x = us.getD 0 0 := ⟨_, rfl⟩
  rw [← hx0] at hc0
  have Hx0 := Lib.hid hx0
  unfold maxLen at hn
  clear hlen hr hx0
  go_enter Tryz.func101, Tryz.ntmps101
  go_wp2_with fail
  go_loopw [3, 4] (fun v3 v4 wr => MxR w n us v3 v4 wr) (fun _ v4 _ => n - (intOf v4).toNat)
  case atStart => exact ⟨1, x0, rfl, by omega, by omega, rfl, fun j hj => by rw [show j = 0 by omega, ← Hx0.out]; exact Nat.le_refl _, ⟨0, by omega, Hx0.out.symm⟩, (by repeat (first | with_reducible exact Below.refl _ _ | with_reducible assumption | with_reducible refine ExtD ?_ | with_reducible refine ExtDN ?_ | with_reducible refine ExtA ?_ | (with_reducible refine ExtR ?_ ?_; (first | omega | (dsimp only; omega) | (simp; done) | (simp; omega))) | (with_reducible refine ExtS ?_ ?_; (first | omega | (dsimp only; omega) | (simp; done) | (simp; omega))) | with_reducible refine Ext.tr ?_ (by with_reducible assumption)))⟩
  case round =>
    obtain ⟨k, v, rfl, hk1, hk, rfl, hall, hex, hx⟩ := hrel
    have Hall := Lib.hid hall
    have Hex := Lib.hid hex
    clear hall hex
    by_cases hlt : k < n
    · obtain ⟨_, _, hA1, hck⟩ := at_u64 HR.out hlt
      injection hA1 with hA1
      injection hA1 with hb ho
      subst hb ho
      have ek := hx.cell hck
      obtain ⟨y, hy⟩ : ∃ y, y = us.getD k 0 := ⟨_, rfl⟩
      rw [← hy] at ek
      have Hy := Lib.hid hy
      clear hck hy
      by_cases hmx : v ≤ y
      · have q1 : max (v : Int) (y : Int) = (y : Int) := by omega
        have q2 : decide ((v : Int) < (y : Int)) = decide (v < y) := by simp
        go_wp2_with fail
        all_goals
          go_roundw
          case rel => exact ⟨k + 1, y, by go_num, by omega, by omega, by first | rfl | (congr 1; omega) | simp [q1], fun j hj => by
            by_cases h : j = k
            · rw [h, ← Hy.out]; exact Nat.le_refl _
            · exact Nat.le_trans (Hall.out j (by omega)) hmx, ⟨k, by omega, Hy.out.symm⟩, (by repeat (first | with_reducible exact Below.refl _ _ | with_reducible assumption | with_reducible refine ExtD ?_ | with_reducible refine ExtDN ?_ | with_reducible refine ExtA ?_ | (with_reducible refine ExtR ?_ ?_; (first | omega | (dsimp only; omega) | (simp; done) | (simp; omega))) | (with_reducible refine ExtS ?_ ?_; (first | omega | (dsimp only; omega) | (simp; done) | (simp; omega))) | with_reducible refine Ext.tr ?_ (by with_reducible assumption)))⟩
          case measure => simp [intOf]; omega
      · have q1 : max (v : Int) (y : Int) = (v : Int) := by omega
        go_wp2_with fail
        all_goals
          go_roundw
          case rel => exact ⟨k + 1, v, by go_num, by omega, by omega, by first | rfl | (congr 1; omega) | simp [q1], fun j hj => by
            by_cases h : j = k
            · rw [h, ← Hy.out]; omega
            · exact Hall.out j (by omega), by obtain ⟨j, hj, he⟩ := Hex.out; exact ⟨j, by omega, he⟩, (by repeat (first | with_reducible exact Below.refl _ _ | with_reducible assumption | with_reducible refine ExtD ?_ | with_reducible refine ExtDN ?_ | with_reducible refine ExtA ?_ | (with_reducible refine ExtR ?_ ?_; (first | omega | (dsimp only; omega) | (simp; done) | (simp; omega))) | (with_reducible refine ExtS ?_ ?_; (first | omega | (dsimp only; omega) | (simp; done) | (simp; omega))) | with_reducible refine Ext.tr ?_ (by with_reducible assumption)))⟩
          case measure => simp [intOf]; omega
    · obtain rfl : k = n := by omega
      go_wp2_with fail
      go_ret
      refine ⟨v, rfl, (by repeat (first | with_reducible exact Below.refl _ _ | with_reducible assumption | with_reducible refine ExtD ?_ | with_reducible refine ExtDN ?_ | with_reducible refine ExtA ?_ | (with_reducible refine ExtR ?_ ?_; (first | omega | (dsimp only; omega) | (simp; done) | (simp; omega))) | (with_reducible refine ExtS ?_ ?_; (first | omega | (dsimp only; omega) | (simp; done) | (simp; omega))) | with_reducible refine Ext.tr ?_ (by with_reducible assumption))), ?_, ?_⟩
      · obtain ⟨j, hj, he⟩ := Hex.out
        rw [← he, List.getD_eq_getElem?_getD, List.getElem?_eq_getElem (by have := Hlen.out; omega)]
        exact List.getElem_mem _
      · intro u hu
        obtain ⟨j, hj, rfl⟩ := List.mem_iff_getElem.1 hu
        have := Hall.out j (by have := Hlen.out; omega)
        rw [List.getD_eq_getElem?_getD, List.getElem?_eq_getElem hj] at this
        exact this
end Go.Proofs.YtjajbbgebblalaaGreatDoor
