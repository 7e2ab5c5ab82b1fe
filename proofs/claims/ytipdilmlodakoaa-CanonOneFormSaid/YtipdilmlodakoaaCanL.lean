/-
  The walks of canon.line and canon.small.
-/
import Derived.Test.YtipdilmlodakoaaWrS
import Derived.Test.YtipdilmlodakoaaOrdW
import Derived.Test.YtipdilmlodakoaaCanQ
namespace Go.Proofs.Ytipdilmlodakoaa
open Go.RowKit
set_option linter.unusedVariables false
set_option linter.unusedSimpArgs false
set_option maxRecDepth 100000 in
theorem ix4 (a b c d : Int) (k : Nat) (hk : k < 4) (W : World) : (Instr.index 93 (.agg #[.int .i64 a, .int .i64 b, .int .i64 c, .int .i64 d]) (.int .i64 (k : Nat))).run Try.prog W = .ok (.int .i64 ([a, b, c, d].getD k 0)) W := by
  have : k = 0 ∨ k = 1 ∨ k = 2 ∨ k = 3 := by omega
  rcases this with h | h | h | h <;> subst h <;> (simp [Instr.index, run_underlying Try.underlying93, asIntOf]; (try simp [part, run_underlying Try.underlying3]))
def lineT (l : Ln) (k : Nat) : List UInt8 := ((lineV l).take k).flatMap fun v => venc (toU v)
theorem lineT_succ (l : Ln) {k : Nat} (hk : k < 4) : lineT l (k + 1) = lineT l k ++ venc (toU ([l.item, l.price, l.qty, l.shipped].getD k 0)) := by
  have : k = 0 ∨ k = 1 ∨ k = 2 ∨ k = 3 := by omega
  rcases this with rfl | rfl | rfl | rfl <;> simp [lineT, lineV]
theorem lineT_four (l : Ln) : lineT l 4 = lineB l := rfl
theorem lineT_len (l : Ln) {k : Nat} (hk : k ≤ 4) : (lineT l k).length ≤ 10 * k := by
  induction k with
  | zero => simp [lineT]
  | succ k ih =>
    rw [lineT_succ l (by omega), List.length_append]
    have h1 := ih (by omega)
    have h2 := venc_len10 _ (toU_lt ([l.item, l.price, l.qty, l.shipped].getD k 0))
    omega
def LinR (w : World) (l : Ln) (c3 c15 : Value) (wr : World) : Prop :=
  ∃ (k : Nat) (A : Option Addr) (c : Nat), c15 = .int .i64 (k : Nat) ∧ k ≤ 4 ∧ c3 = .slice A (lineT l k).length c ∧ Ext w wr ∧ wr.ownsRow w.heap.size 5 1 (.slice A (lineT l k).length c) (lineT l k).length (u8s (lineT l k))
set_option maxRecDepth 100000 in
set_option maxHeartbeats 2000000 in
theorem line_any (l : Ln) (hl : lnB l = true) (w : World) : Calls Try.prog 34 #[.agg #[.int .i64 l.item, .int .i64 l.price, .int .i64 l.qty, .int .i64 l.shipped]] w (NewB w (lineB l)) := by
  have hv : ∀ k, k < 4 → 0 ≤ [l.item, l.price, l.qty, l.shipped].getD k 0 ∧ [l.item, l.price, l.qty, l.shipped].getD k 0 ≤ 100000000 := fun k hk => by
    rw [lnB_iff] at hl
    have : k = 0 ∨ k = 1 ∨ k = 2 ∨ k = 3 := by omega
    rcases this with rfl | rfl | rfl | rfl <;> simp <;> omega
  have HV := Lib.hid hv
  clear hv hl
  go_enter Try.func34, Try.ntmps34
  go_wp2_with fail
  go_loopw [3, 15] (fun c3 c15 wr => LinR w l c3 c15 wr) (fun _ c15 _ => 4 - (intOf c15).toNat)
  case atStart => exact ⟨0, none, 0, rfl, by omega, rfl, (by repeat (first | with_reducible exact Below.refl _ _ | with_reducible assumption | with_reducible refine ExtD ?_ | with_reducible refine ExtDN ?_ | with_reducible refine ExtA ?_ | (with_reducible refine ExtR ?_ ?_; (first | omega | (dsimp only; omega) | (simp; done) | (simp; omega))) | (with_reducible refine ExtS ?_ ?_; (first | omega | (dsimp only; omega) | (simp; done) | (simp; omega))) | with_reducible refine Ext.tr ?_ (by with_reducible assumption))), World.ownsRow_nil _ _ _ _⟩
  case round =>
    obtain ⟨k, A, c, rfl, hk, rfl, hx, ho⟩ := hrel
    have Ho := Lib.hid ho
    clear ho
    by_cases hk4 : k < 4
    · have hix := ix4 l.item l.price l.qty l.shipped k hk4
      have hb := HV.out k hk4
      have HS := Lib.hid (lineT_succ l hk4)
      have HL := Lib.hid (lineT_len l (Nat.le_of_lt hk4))
      have HL2 := Lib.hid (venc_len10 _ (toU_lt ([l.item, l.price, l.qty, l.shipped].getD k 0)))
      generalize [l.item, l.price, l.qty, l.shipped].getD k 0 = v at *
      obtain ⟨m, rfl⟩ : ∃ m : Nat, v = (m : Int) := ⟨v.toNat, by omega⟩
      have hm : m ≤ 100000000 := by omega
      have e : toU (m : Int) = m := by rw [toU_pos (by omega) (by omega)]; omega
      rw [e] at HS HL2
      clear hb e
      have K := Lib.hid fun W => venc_any m W (by omega)
      go_wp2_with (first
        | (go_at_call 54; (with_reducible refine (K.out _).mono ?_); rintro e w1 ⟨A1, c1, rfl, hx1, hown1⟩; have hW1 : Ext w w1 := (by repeat (first | with_reducible exact Below.refl _ _ | with_reducible assumption | with_reducible refine ExtD ?_ | with_reducible refine ExtDN ?_ | with_reducible refine ExtA ?_ | (with_reducible refine ExtR ?_ ?_; (first | omega | (dsimp only; omega) | (simp; done) | (simp; omega))) | (with_reducible refine ExtS ?_ ?_; (first | omega | (dsimp only; omega) | (simp; done) | (simp; omega))) | with_reducible refine Ext.tr ?_ (by with_reducible assumption))))
        | (at_builtin; refine wpB_append rfl (.tmp 18) (.tmp 21) rfl w rfl (own_ext hx1 Ho.out) hW1 rfl (rd_own hown1) (by have := HL.out; have := HL2.out; omega) ?_; intro A2 n2 c2 w2 hx2 hn2 hown2 hk2 hg2))
      go_roundw
      case rel =>
        rw [hn2.out, ← HS.out] at hown2 ⊢
        exact ⟨k + 1, A2, c2, by go_num, by omega, rfl, hx2, hown2⟩
      case measure => simp [intOf]; omega
    · obtain rfl : k = 4 := by omega
      go_wp2_with fail
      go_ret
      exact ⟨A, c, rfl, hx, Ho.out⟩
set_option maxRecDepth 100000 in
set_option maxHeartbeats 2000000 in
theorem small_any (u : Nat) (w : World) : Calls Try.prog 26 #[.int .u64 (u : Nat)] w fun e w' => e = .returned (.int .i64 (clampN u : Nat)) ∧ Ext w w' := by
  go_enter Try.func26, Try.ntmps26
  go_wp2_with fail
  go_ret
  refine ⟨?_, (by repeat (first | with_reducible exact Below.refl _ _ | with_reducible assumption | with_reducible refine ExtD ?_ | with_reducible refine ExtDN ?_ | with_reducible refine ExtA ?_ | (with_reducible refine ExtR ?_ ?_; (first | omega | (dsimp only; omega) | (simp; done) | (simp; omega))) | (with_reducible refine ExtS ?_ ?_; (first | omega | (dsimp only; omega) | (simp; done) | (simp; omega))) | with_reducible refine Ext.tr ?_ (by with_reducible assumption)))⟩
  have e : min (u : Int) 4611686018427387904 = ((clampN u : Nat) : Int) := by unfold clampN; split <;> omega
  rw [← e]
  rfl
end Go.Proofs.Ytipdilmlodakoaa
