/-
  The walks of a reader: Num, Int, Text, Err; Zag on both sides.
-/
import Derived.Test.YtcekdfhbbfednaaRdW
import Derived.Test.YtcekdfhbbfednaaWrP
import Derived.Laws.DeepNot64
import Derived.Laws.Bits64b
namespace Go.Proofs.Ytcekdfhbbfednaa
open Go.RowKit
set_option linter.unusedVariables false
set_option linter.unusedSimpArgs false
open Go.Maps
def zag (u : Nat) : Int := if u % 2 = 0 then (u / 2 : Nat) else -((u / 2 : Nat) : Int) - 1
set_option maxRecDepth 100000 in
set_option maxHeartbeats 4000000 in
theorem rnum_any (w : World) (base g b : Nat) (hs : List Held) (bad : Nat) (D : DataW Value) (t : Int) (h : RdX w base g b hs bad D) (ht : IsI t) :
    Calls Try.prog 31 #[.pointer (some ⟨g, 0, none⟩), .int .i64 t] w fun e w' => e = .returned (.int .u64 ((takeH hs t false).1.num : Nat)) ∧ Turn [g, b] w w' ∧ ∃ D', RdX w' base g b (strike t hs) (takeB hs t false bad) D' := by
  have K := Lib.hid (take_any w base g b hs bad D t false h ht)
  unfold TakePost at K
  generalize takeH hs t false = x at *
  obtain ⟨⟨tag, xt, nm, bs⟩, Af, cf⟩ := x
  unfold fldV fcells at K
  dsimp only at *
  clear h ht
  have kf2 : ∀ (a b c d : Value) (w : World), (Instr.field 29 (.agg #[a, b, c, d]) 2).run Try.prog w = .ok c w := fun _ _ _ _ _ => by kernel_rfl
  have kf3 : ∀ (a b c d : Value) (w : World), (Instr.field 29 (.agg #[a, b, c, d]) 3).run Try.prog w = .ok d w := fun _ _ _ _ _ => by kernel_rfl
  go_enter Try.func31, Try.ntmps31
  go_wp2_with (go_at_call 49; (with_reducible refine K.out.mono ?_); rintro e w1 ⟨rfl, hx⟩; have HX := Lib.hid hx; clear hx)
  go_ret
  exact ⟨rfl, HX.out⟩
set_option maxRecDepth 100000 in
set_option maxHeartbeats 4000000 in
theorem rtext_any (w : World) (base g b : Nat) (hs : List Held) (bad : Nat) (D : DataW Value) (t : Int) (h : RdX w base g b hs bad D) (ht : IsI t) :
    Calls Try.prog 33 #[.pointer (some ⟨g, 0, none⟩), .int .i64 t] w fun e w' => e = .returned (.slice (takeH hs t true).2.1 (takeH hs t true).1.bytes.length (takeH hs t true).2.2) ∧ Turn [g, b] w w' ∧ ∃ D', RdX w' base g b (strike t hs) (takeB hs t true bad) D' := by
  have K := Lib.hid (take_any w base g b hs bad D t true h ht)
  unfold TakePost at K
  generalize takeH hs t true = x at *
  obtain ⟨⟨tag, xt, nm, bs⟩, Af, cf⟩ := x
  unfold fldV fcells at K
  dsimp only at *
  clear h ht
  have kf2 : ∀ (a b c d : Value) (w : World), (Instr.field 29 (.agg #[a, b, c, d]) 2).run Try.prog w = .ok c w := fun _ _ _ _ _ => by kernel_rfl
  have kf3 : ∀ (a b c d : Value) (w : World), (Instr.field 29 (.agg #[a, b, c, d]) 3).run Try.prog w = .ok d w := fun _ _ _ _ _ => by kernel_rfl
  go_enter Try.func33, Try.ntmps33
  go_wp2_with (go_at_call 49; (with_reducible refine K.out.mono ?_); rintro e w1 ⟨rfl, hx⟩; have HX := Lib.hid hx; clear hx)
  go_ret
  exact ⟨rfl, HX.out⟩
set_option maxRecDepth 100000 in
set_option maxHeartbeats 4000000 in
theorem rzag_any (u : Nat) (hu : u < 18446744073709551616) (w : World) :
    Calls Try.prog 37 #[.int .u64 (u : Nat)] w fun e w' => e = .returned (.int .i64 (zag u)) ∧ Ext w w' := by
  have hd : (u : Int) / 2 = ((u / 2 : Nat) : Int) := by omega
  have hq : u / 2 ≤ 9223372036854775807 := by omega
  have hz : zag u = if u % 2 = 0 then ((u / 2 : Nat) : Int) else -((u / 2 : Nat) : Int) - 1 := rfl
  rw [hz]
  clear hz
  by_cases hp : u % 2 = 0
  · rw [if_pos hp]
    have t0 : ((u : Int) % 2 == 0) = true := by simp; omega
    clear hp hu
    generalize u / 2 = q at *
    go_enter Try.func37, Try.ntmps37
    go_wp2_with fail
    go_ret
    exact ⟨rfl, (by repeat (first | with_reducible exact Below.refl _ _ | with_reducible assumption | with_reducible refine ExtD ?_ | with_reducible refine ExtDN ?_ | with_reducible refine ExtA ?_ | (with_reducible refine ExtR ?_ ?_; (first | omega | (dsimp only; omega) | (simp; done) | (simp; omega))) | (with_reducible refine ExtS ?_ ?_; (first | omega | (dsimp only; omega) | (simp; done) | (simp; omega))) | with_reducible refine Ext.tr ?_ (by with_reducible assumption)))⟩
  · rw [if_neg hp]
    have t0 : ((u : Int) % 2 == 0) = false := by simp; omega
    clear hp hu
    generalize u / 2 = q at *
    go_enter Try.func37, Try.ntmps37
    go_wp2_with fail
    go_ret
    exact ⟨rfl, (by repeat (first | with_reducible exact Below.refl _ _ | with_reducible assumption | with_reducible refine ExtD ?_ | with_reducible refine ExtDN ?_ | with_reducible refine ExtA ?_ | (with_reducible refine ExtR ?_ ?_; (first | omega | (dsimp only; omega) | (simp; done) | (simp; omega))) | (with_reducible refine ExtS ?_ ?_; (first | omega | (dsimp only; omega) | (simp; done) | (simp; omega))) | with_reducible refine Ext.tr ?_ (by with_reducible assumption)))⟩
theorem xor_zero64 (a : Nat) (ha : a ≤ 9223372036854775807) : bits .xor .i64 (a : Int) 0 = (a : Int) := by
  show IntKind.i64.wrap ((BitVec.ofInt 64 (a : Int) ^^^ BitVec.ofInt 64 0).toNat : Int) = _
  have h1 : BitVec.ofInt 64 0 = 0#64 := by decide
  rw [h1, BitVec.xor_zero, ofInt_u64 a (by omega)]
  simp [IntKind.wrap, IntKind.bits, IntKind.signed]
  omega
theorem xor_ones64 (a : Nat) (ha : a ≤ 9223372036854775807) : bits .xor .i64 (a : Int) (-1) = -1 - (a : Int) := by
  rw [← i64_not a (by omega)]
  show IntKind.i64.wrap ((BitVec.ofInt 64 (a : Int) ^^^ BitVec.ofInt 64 (-1)).toNat : Int) = IntKind.i64.wrap ((BitVec.ofInt 64 (-1) ^^^ BitVec.ofInt 64 (a : Int)).toNat : Int)
  rw [BitVec.xor_comm]
set_option maxRecDepth 100000 in
set_option maxHeartbeats 4000000 in
theorem zag_any (u : Nat) (hu : u < 18446744073709551616) (w : World) :
    Calls Try.prog 50 #[.int .u64 (u : Nat)] w fun e w' => e = .returned (.int .i64 (zag u)) ∧ Ext w w' := by
  have hd : (u : Int) / 2 = ((u / 2 : Nat) : Int) := by omega
  have hq : u / 2 ≤ 9223372036854775807 := by omega
  have hx0 := xor_zero64 (u / 2) hq
  have hx1 := xor_ones64 (u / 2) hq
  have ha : bits BinOp.and IntKind.u64 (u : Int) 1 = ((u % 2 : Nat) : Int) := by
    have := bits_and_u64_nat u 1 hu (by omega)
    rw [Nat.and_one_is_mod] at this
    exact this
  have hz : zag u = if u % 2 = 0 then ((u / 2 : Nat) : Int) else -((u / 2 : Nat) : Int) - 1 := rfl
  rw [hz]
  clear hz
  by_cases hp : u % 2 = 0
  · rw [if_pos hp]
    rw [hp] at ha
    have ha : bits BinOp.and IntKind.u64 (u : Int) 1 = 0 := ha
    clear hp hu hx1
    generalize u / 2 = q at *
    go_enter Try.func50, Try.ntmps50
    go_wp2_with fail
    go_ret
    refine ⟨?_, (by repeat (first | with_reducible exact Below.refl _ _ | with_reducible assumption | with_reducible refine ExtD ?_ | with_reducible refine ExtDN ?_ | with_reducible refine ExtA ?_ | (with_reducible refine ExtR ?_ ?_; (first | omega | (dsimp only; omega) | (simp; done) | (simp; omega))) | (with_reducible refine ExtS ?_ ?_; (first | omega | (dsimp only; omega) | (simp; done) | (simp; omega))) | with_reducible refine Ext.tr ?_ (by with_reducible assumption)))⟩
    first | rfl | (simp; done)
  · rw [if_neg hp]
    rw [show u % 2 = 1 by omega] at ha
    have ha : bits BinOp.and IntKind.u64 (u : Int) 1 = 1 := ha
    replace hx1 : bits .xor .i64 ((u / 2 : Nat) : Int) (-1) = -((u / 2 : Nat) : Int) - 1 := by rw [hx1]; omega
    clear hp hu hx0
    generalize u / 2 = q at *
    go_enter Try.func50, Try.ntmps50
    go_wp2_with fail
    go_ret
    refine ⟨?_, (by repeat (first | with_reducible exact Below.refl _ _ | with_reducible assumption | with_reducible refine ExtD ?_ | with_reducible refine ExtDN ?_ | with_reducible refine ExtA ?_ | (with_reducible refine ExtR ?_ ?_; (first | omega | (dsimp only; omega) | (simp; done) | (simp; omega))) | (with_reducible refine ExtS ?_ ?_; (first | omega | (dsimp only; omega) | (simp; done) | (simp; omega))) | with_reducible refine Ext.tr ?_ (by with_reducible assumption)))⟩
    first | rfl | (simp; done)
set_option maxRecDepth 100000 in
set_option maxHeartbeats 4000000 in
theorem rint_any (w : World) (base g b : Nat) (hs : List Held) (bad : Nat) (D : DataW Value) (t : Int) (h : RdX w base g b hs bad D) (ht : IsI t) (hu : (takeH hs t false).1.num < 18446744073709551616) :
    Calls Try.prog 32 #[.pointer (some ⟨g, 0, none⟩), .int .i64 t] w fun e w' => e = .returned (.int .i64 (zag (takeH hs t false).1.num)) ∧ Turn [g, b] w w' ∧ ∃ D', RdX w' base g b (strike t hs) (takeB hs t false bad) D' := by
  have K := Lib.hid (rnum_any w base g b hs bad D t h ht)
  generalize (takeH hs t false).1.num = u at *
  have KZ := Lib.hid fun W => zag_any u hu W
  clear h ht hu
  go_enter Try.func32, Try.ntmps32
  go_wp2_with (first
    | (go_at_call 31; (with_reducible refine K.out.mono ?_); rintro e w1 ⟨rfl, ht, hx⟩; have HX := Lib.hid hx; have HT := Lib.hid ht; clear hx ht)
    | (go_at_call 50; (with_reducible refine (KZ.out _).mono ?_); rintro e w2 ⟨rfl, hx2⟩))
  go_ret
  obtain ⟨D', hx⟩ := HX.out
  exact ⟨rfl, HT.out.tr (hx2.turn _), D', hx.ext hx2⟩
def errR (hs : List Held) (bad : Nat) : Nat := if bad ≠ 0 then bad else if 0 < hs.length then 20 else 0
set_option maxRecDepth 100000 in
set_option maxHeartbeats 4000000 in
theorem rerr_any (w : World) (base g b : Nat) (hs : List Held) (bad : Nat) (D : DataW Value) (h : RdX w base g b hs bad D) :
    Calls Try.prog 35 #[.pointer (some ⟨g, 0, none⟩)] w fun e w' => e = .returned (.int .i64 (errR hs bad : Nat)) ∧ Ext w w' := by
  have q0 := h.blk.cell 0
  have q1 := h.blk.cell 1
  have hl := map_len h.own h.map
  unfold errR
  by_cases hb : bad = 0
  · subst hb
    rw [if_neg (by simp)]
    by_cases h0 : 0 < hs.length
    · rw [if_pos h0]
      go_enter Try.func35, Try.ntmps35
      go_wp2_with fail
      go_ret
      exact ⟨rfl, (by repeat (first | with_reducible exact Below.refl _ _ | with_reducible assumption | with_reducible refine ExtD ?_ | with_reducible refine ExtDN ?_ | with_reducible refine ExtA ?_ | (with_reducible refine ExtR ?_ ?_; (first | omega | (dsimp only; omega) | (simp; done) | (simp; omega))) | (with_reducible refine ExtS ?_ ?_; (first | omega | (dsimp only; omega) | (simp; done) | (simp; omega))) | with_reducible refine Ext.tr ?_ (by with_reducible assumption)))⟩
    · rw [if_neg h0]
      have h1 : hs.length = 0 := by omega
      rw [h1] at hl
      clear h0 h1
      go_enter Try.func35, Try.ntmps35
      go_wp2_with fail
      go_ret
      exact ⟨rfl, (by repeat (first | with_reducible exact Below.refl _ _ | with_reducible assumption | with_reducible refine ExtD ?_ | with_reducible refine ExtDN ?_ | with_reducible refine ExtA ?_ | (with_reducible refine ExtR ?_ ?_; (first | omega | (dsimp only; omega) | (simp; done) | (simp; omega))) | (with_reducible refine ExtS ?_ ?_; (first | omega | (dsimp only; omega) | (simp; done) | (simp; omega))) | with_reducible refine Ext.tr ?_ (by with_reducible assumption)))⟩
  · rw [if_pos hb]
    have t0 : ((bad : Int) != 0) = true := by simp; exact hb
    clear hb
    go_enter Try.func35, Try.ntmps35
    go_wp2_with fail
    go_ret
    exact ⟨rfl, (by repeat (first | with_reducible exact Below.refl _ _ | with_reducible assumption | with_reducible refine ExtD ?_ | with_reducible refine ExtDN ?_ | with_reducible refine ExtA ?_ | (with_reducible refine ExtR ?_ ?_; (first | omega | (dsimp only; omega) | (simp; done) | (simp; omega))) | (with_reducible refine ExtS ?_ ?_; (first | omega | (dsimp only; omega) | (simp; done) | (simp; omega))) | with_reducible refine Ext.tr ?_ (by with_reducible assumption)))⟩
end Go.Proofs.Ytcekdfhbbfednaa
