/-
  The walks of a reader: Num, Int, Text, Err; Zag on both sides.
-/
import Derived.Test.YtipdilmlodakoaaRdW
import Derived.Test.YtipdilmlodakoaaWrP
import Derived.Laws.DeepNot64
import Derived.Laws.Bits64b
namespace Go.Proofs.Ytipdilmlodakoaa
open Go.RowKit
set_option linter.unusedVariables false
set_option linter.unusedSimpArgs false
open Go.Maps
def zag (u : Nat) : Int := if u % 2 = 0 then (u / 2 : Nat) else -((u / 2 : Nat) : Int) - 1
set_option maxRecDepth 100000 in
set_option maxHeartbeats 4000000 in
theorem rnum_any (w : World) (base g b : Nat) (hs : List Held) (bad : Nat) (D : DataW Value) (t : Int) (h : RdX w base g b hs bad D) (ht : IsI t) :
    Calls Try.prog 27 #[.pointer (some ⟨g, 0, none⟩), .int .i64 t] w fun e w' => e = .returned (.int .u64 ((takeH hs t false).1.num : Nat)) ∧ Turn [g, b] w w' ∧ ∃ D', RdX w' base g b (strike t hs) (takeB hs t false bad) D' := by
  have K := Lib.hid (take_any w base g b hs bad D t false h ht)
  unfold TakePost at K
  generalize takeH hs t false = x at *
  obtain ⟨⟨tag, xt, nm, bs⟩, Af, cf⟩ := x
  unfold fldV fcells at K
  dsimp only at *
  clear h ht
  have kf2 : ∀ (a b c d : Value) (w : World), (Instr.field 54 (.agg #[a, b, c, d]) 2).run Try.prog w = .ok c w := fun _ _ _ _ _ => by kernel_rfl
  have kf3 : ∀ (a b c d : Value) (w : World), (Instr.field 54 (.agg #[a, b, c, d]) 3).run Try.prog w = .ok d w := fun _ _ _ _ _ => by kernel_rfl
  go_enter Try.func27, Try.ntmps27
  go_wp2_with (go_at_call 50; (with_reducible refine K.out.mono ?_); rintro e w1 ⟨rfl, hx⟩; have HX := Lib.hid hx; clear hx)
  go_ret
  exact ⟨rfl, HX.out⟩
set_option maxRecDepth 100000 in
set_option maxHeartbeats 4000000 in
theorem rtext_any (w : World) (base g b : Nat) (hs : List Held) (bad : Nat) (D : DataW Value) (t : Int) (h : RdX w base g b hs bad D) (ht : IsI t) :
    Calls Try.prog 28 #[.pointer (some ⟨g, 0, none⟩), .int .i64 t] w fun e w' => e = .returned (.slice (takeH hs t true).2.1 (takeH hs t true).1.bytes.length (takeH hs t true).2.2) ∧ Turn [g, b] w w' ∧ ∃ D', RdX w' base g b (strike t hs) (takeB hs t true bad) D' := by
  have K := Lib.hid (take_any w base g b hs bad D t true h ht)
  unfold TakePost at K
  generalize takeH hs t true = x at *
  obtain ⟨⟨tag, xt, nm, bs⟩, Af, cf⟩ := x
  unfold fldV fcells at K
  dsimp only at *
  clear h ht
  have kf2 : ∀ (a b c d : Value) (w : World), (Instr.field 54 (.agg #[a, b, c, d]) 2).run Try.prog w = .ok c w := fun _ _ _ _ _ => by kernel_rfl
  have kf3 : ∀ (a b c d : Value) (w : World), (Instr.field 54 (.agg #[a, b, c, d]) 3).run Try.prog w = .ok d w := fun _ _ _ _ _ => by kernel_rfl
  go_enter Try.func28, Try.ntmps28
  go_wp2_with (go_at_call 50; (with_reducible refine K.out.mono ?_); rintro e w1 ⟨rfl, hx⟩; have HX := Lib.hid hx; clear hx)
  go_ret
  exact ⟨rfl, HX.out⟩
theorem xor_zero64 (a : Nat) (ha : a ≤ 9223372036854775807) : bits .xor .i64 (a : Int) 0 = (a : Int) := by
  show IntKind.i64.wrap ((BitVec.ofInt 64 (a : Int) ^^^ BitVec.ofInt 64 0).toNat : Int) = _
  have h1 : BitVec.ofInt 64 0 = 0#64 := by decide
  rw [h1, BitVec.xor_zero, ofInt_u64 a (by omega)]
  simp [IntKind.wrap, IntKind.bits, IntKind.signed]
  omega
theorem xor_ones64 (a : Nat) (ha : a ≤ 9223372036854775807) : bits .xor .i64 (a : Int) (-1) = -1 - (a : Int) := by
  rw [← i64_not a (by omega)]
  show IntKind.i64.wrap ((BitVec.ofInt 64 (a : Int) ^^^ BitVec.ofInt 64 (-1)).toNat : Int) = IntKind.i64.wrap ((BitVec.ofInt 64 (-1) ^^^ BitVec.ofInt 64 (a : Int)).toNat : Int)
  rw [BitVec.xor_comm]
def errR (hs : List Held) (bad : Nat) : Nat := if bad ≠ 0 then bad else if 0 < hs.length then 20 else 0
set_option maxRecDepth 100000 in
set_option maxHeartbeats 4000000 in
theorem rerr_any (w : World) (base g b : Nat) (hs : List Held) (bad : Nat) (D : DataW Value) (h : RdX w base g b hs bad D) :
    Calls Try.prog 30 #[.pointer (some ⟨g, 0, none⟩)] w fun e w' => e = .returned (.int .i64 (errR hs bad : Nat)) ∧ Ext w w' := by
  have q0 := h.blk.cell 0
  have q1 := h.blk.cell 1
  have hl := map_len h.own h.map
  unfold errR
  by_cases hb : bad = 0
  · subst hb
    rw [if_neg (by simp)]
    by_cases h0 : 0 < hs.length
    · rw [if_pos h0]
      go_enter Try.func30, Try.ntmps30
      go_wp2_with fail
      go_ret
      exact ⟨rfl, (by repeat (first | with_reducible exact Below.refl _ _ | with_reducible assumption | with_reducible refine ExtD ?_ | with_reducible refine ExtDN ?_ | with_reducible refine ExtA ?_ | (with_reducible refine ExtR ?_ ?_; (first | omega | (dsimp only; omega) | (simp; done) | (simp; omega))) | (with_reducible refine ExtS ?_ ?_; (first | omega | (dsimp only; omega) | (simp; done) | (simp; omega))) | with_reducible refine Ext.tr ?_ (by with_reducible assumption)))⟩
    · rw [if_neg h0]
      have h1 : hs.length = 0 := by omega
      rw [h1] at hl
      clear h0 h1
      go_enter Try.func30, Try.ntmps30
      go_wp2_with fail
      go_ret
      exact ⟨rfl, (by repeat (first | with_reducible exact Below.refl _ _ | with_reducible assumption | with_reducible refine ExtD ?_ | with_reducible refine ExtDN ?_ | with_reducible refine ExtA ?_ | (with_reducible refine ExtR ?_ ?_; (first | omega | (dsimp only; omega) | (simp; done) | (simp; omega))) | (with_reducible refine ExtS ?_ ?_; (first | omega | (dsimp only; omega) | (simp; done) | (simp; omega))) | with_reducible refine Ext.tr ?_ (by with_reducible assumption)))⟩
  · rw [if_pos hb]
    have t0 : ((bad : Int) != 0) = true := by simp; exact hb
    clear hb
    go_enter Try.func30, Try.ntmps30
    go_wp2_with fail
    go_ret
    exact ⟨rfl, (by repeat (first | with_reducible exact Below.refl _ _ | with_reducible assumption | with_reducible refine ExtD ?_ | with_reducible refine ExtDN ?_ | with_reducible refine ExtA ?_ | (with_reducible refine ExtR ?_ ?_; (first | omega | (dsimp only; omega) | (simp; done) | (simp; omega))) | (with_reducible refine ExtS ?_ ?_; (first | omega | (dsimp only; omega) | (simp; done) | (simp; omega))) | with_reducible refine Ext.tr ?_ (by with_reducible assumption)))⟩
end Go.Proofs.Ytipdilmlodakoaa
