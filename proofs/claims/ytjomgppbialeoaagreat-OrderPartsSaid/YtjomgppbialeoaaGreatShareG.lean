/-
  The walks of the reference's Zero and Share.
-/
import Derived.Test.YtjomgppbialeoaaGreatShareX
import Derived.Test.YtjomgppbialeoaaGreatLongW6
import Derived.Test.YtjomgppbialeoaaGreatLongW7
namespace Go.Proofs.YtjomgppbialeoaaGreat
open Go.RowKit
set_option linter.unusedVariables false
set_option linter.unusedSimpArgs false
set_option maxHeartbeats 1000000 in
theorem zero_any (b : Bool) (m : Nat) (w : World) (hm : m < 65536 ^ 16) :
    Calls Tryz.prog 32 #[longV b m] w fun e w' => e = .returned (.bool (decide (m = 0))) ∧ Ext w w' := by
  have Hm := Lib.hid hm
  clear hm
  have z2 := arr_zero false
  have hz0 := arr_ext (b := false) (D := fun _ => 0) (E := dg 0) (fun j _ => by simp [dg])
  have t0 : (cmpI m 0 == 0) = decide (m = 0) := by
    unfold cmpI
    by_cases h : m = 0
    · subst h; rfl
    · rw [if_neg (by omega), if_pos (by omega)]; simp [h]
  unfold longV
  go_enter Tryz.func32, Tryz.ntmps32
  go_wp2_with (first
    | (with_reducible refine wpL_load_row rfl 64 (.tmp 1) rfl _ 64 (arrA b (dg m)) 17 rfl (BlkN (by simp)) long_wide (arr_size _ _) ?_)
    | (go_at_call 37; go_must (with_reducible refine (cmp_any b false m 0 _ Hm.out (Nat.pow_pos (by decide))).mono ?_); rintro e w1 ⟨rfl, hx1⟩))
  go_ret
  exact ⟨by simp [t0], (by repeat (first | with_reducible exact Below.refl _ _ | with_reducible assumption | with_reducible refine ExtD ?_ | with_reducible refine ExtDN ?_ | with_reducible refine ExtA ?_ | (with_reducible refine ExtR ?_ ?_; (first | omega | (dsimp only; omega) | (simp; done) | (simp; omega))) | (with_reducible refine ExtS ?_ ?_; (first | omega | (dsimp only; omega) | (simp; done) | (simp; omega))) | with_reducible refine Ext.tr ?_ (by with_reducible assumption)))⟩
end Go.Proofs.YtjomgppbialeoaaGreat
