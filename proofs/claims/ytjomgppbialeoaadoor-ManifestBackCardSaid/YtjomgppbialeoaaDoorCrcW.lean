/-
  The walks of the check sum: step, Update, Sum, Four; the reference's Take, Update, Sum, Four.
-/
import Derived.Test.YtjomgppbialeoaaDoorBytesX
import Derived.Test.YtjomgppbialeoaaDoorCrcP
import Derived.Lib.EndianBits
namespace Go.Proofs.YtjomgppbialeoaaDoor
open Go.RowKit
set_option linter.unusedVariables false
set_option linter.unusedSimpArgs false
theorem xor_u32 (a b : Nat) (ha : a < 4294967296) (hb : b < 4294967296) : bits .xor .u32 (a : Int) (b : Int) = ((a ^^^ b : Nat) : Int) := by
  have hx : a ^^^ b < 2 ^ 32 := Nat.xor_lt_two_pow (by omega) (by omega)
  have h1 : (BitVec.ofInt 32 (a : Int)).toNat = a := by
    rw [BitVec.ofInt_natCast, BitVec.toNat_ofNat]; exact Nat.mod_eq_of_lt (by omega)
  have h2 : (BitVec.ofInt 32 (b : Int)).toNat = b := by
    rw [BitVec.ofInt_natCast, BitVec.toNat_ofNat]; exact Nat.mod_eq_of_lt (by omega)
  show IntKind.u32.wrap ((BitVec.ofInt 32 (a : Int) ^^^ BitVec.ofInt 32 (b : Int)).toNat : Int) = _
  rw [BitVec.toNat_xor, h1, h2, IntKind.wrap_u32]
  omega
theorem and15 (x : Nat) (h : x < 4294967296) : bits .and .u32 (x : Int) 15 = ((x % 16 : Nat) : Int) := by
  have := bits_mask .u32 32 (by decide) wraps_u32 4 (by decide) (x : Int) (by omega) (by omega)
  simpa using this
theorem div16 (x : Nat) : (x : Int) / 16 = ((x / 16 : Nat) : Int) := by omega
theorem nibs_lt : ∀ i, i < 16 → nibs.getD i 0 < 4294967296 := by decide
theorem cnib_lt {x : Nat} (h : x < 4294967296) : cnib x < 4294967296 := by rw [cnib_eq]; exact cbits_lt 4 h
/-- The table of nibbles lies in the program's variable. -/
def Nib (w : World) : Prop := ∀ i, i < 16 → w.cell? ⟨0, i, none⟩ = some (.int .u32 (nibs.getD i 0 : Nat))
theorem Nib.ext {w w' : World} (h : Nib w) (hx : Ext w w') : Nib w' := fun i hi => hx.cell (h i hi)
set_option maxRecDepth 100000 in
set_option maxHeartbeats 2000000 in
theorem step_any (c b : Nat) (w : World) (hN : Nib w) (hc : c < 4294967296) (hb : b < 256) : Calls Tryd.prog 49 #[.int .u32 (c : Nat), .int .u8 (b : Nat)] w fun e w' => e = .returned (.int .u32 (ctake c b : Nat)) ∧ Ext w w' := by
  have hx := xor_u32 c b hc (by omega)
  have hxl : c ^^^ b < 4294967296 := Nat.xor_lt_two_pow (n := 32) hc (by omega)
  have HT := Lib.hid (ctake_nib c b)
  generalize c ^^^ b = x at *
  have h2 := and15 x hxl
  have e1 := hN (x % 16) (by omega)
  have hn1 := nibs_lt (x % 16) (by omega)
  have h4 : bits .xor .u32 ((x : Int) / 16) ((nibs.getD (x % 16) 0 : Nat) : Int) = ((cnib x : Nat) : Int) := by rw [div16, xor_u32 _ _ (by omega) hn1]; rfl
  have hyl := cnib_lt hxl
  generalize nibs.getD (x % 16) 0 = n1 at *
  generalize cnib x = y at *
  have h5 := and15 y hyl
  have e2 := hN (y % 16) (by omega)
  have hn2 := nibs_lt (y % 16) (by omega)
  have h7 : bits .xor .u32 ((y : Int) / 16) ((nibs.getD (y % 16) 0 : Nat) : Int) = ((cnib y : Nat) : Int) := by rw [div16, xor_u32 _ _ (by omega) hn2]; rfl
  generalize nibs.getD (y % 16) 0 = n2 at *
  have m1 : x % 16 < 16 := by omega
  have m2 : y % 16 < 16 := by omega
  generalize x % 16 = r1 at *
  generalize y % 16 = r2 at *
  clear hN
  go_enter Tryd.func49, Tryd.ntmps49
  go_wp2_with fail
  go_ret
  exact ⟨by rw [HT.out]; rfl, (by repeat (first | with_reducible exact Below.refl _ _ | with_reducible assumption | with_reducible refine ExtD ?_ | with_reducible refine ExtDN ?_ | with_reducible refine ExtA ?_ | (with_reducible refine ExtR ?_ ?_; (first | omega | (dsimp only; omega) | (simp; done) | (simp; omega))) | (with_reducible refine ExtS ?_ ?_; (first | omega | (dsimp only; omega) | (simp; done) | (simp; omega))) | with_reducible refine Ext.tr ?_ (by with_reducible assumption)))⟩
theorem not_u32 (a : Nat) (ha : a < 4294967296) : a ^^^ 4294967295 = 4294967295 - a := by
  have h := congrArg BitVec.toNat (BitVec.xor_allOnes (x := BitVec.ofNat 32 a))
  rw [BitVec.toNat_xor, BitVec.toNat_not, BitVec.toNat_allOnes, BitVec.toNat_ofNat, Nat.mod_eq_of_lt (by exact ha)] at h
  exact h
theorem compl_u32 (a : Nat) (ha : a < 4294967296) : bits .xor .u32 IntKind.u32.max (a : Int) = ((4294967295 - a : Nat) : Int) := by
  have h : IntKind.u32.max = ((4294967295 : Nat) : Int) := by decide
  rw [h, xor_u32 _ _ (by decide) ha, Nat.xor_comm, not_u32 a ha]
def CuR (W : World) (c0 : Nat) (l : List UInt8) (c5 c12 : Value) (wr : World) : Prop := ∃ k : Nat, c12 = .int .i64 (k : Nat) ∧ k ≤ l.length ∧ c5 = .int .u32 (creg c0 (l.take k) : Nat) ∧ Ext W wr
set_option maxRecDepth 100000 in
set_option maxHeartbeats 2000000 in
theorem update_any (s : Nat) (A : Option Addr) (n c : Nat) (l : List UInt8) (w : World) (hN : Nib w) (hs : s < 4294967296) (hr : Rd w A n (u8s l)) (hn : n ≤ maxLen) :
    Calls Tryd.prog 44 #[.int .u32 (s : Nat), .slice A n c] w fun e w' => e = .returned (.int .u32 (4294967295 - creg (4294967295 - s) l : Nat)) ∧ Ext w w' := by
  have hlen : l.length = n := by have := hr.1; rw [u8s_len] at this; exact this
  have Hlen := Lib.hid hlen
  have hc0 : 4294967295 - s < 4294967296 := by omega
  have KS := Lib.hid fun (c b : Nat) (W : World) (hx : Ext w W) (hc : c < 4294967296) (hb : b < 256) => step_any c b W (hN.ext hx) hc hb
  have h1 := compl_u32 s hs
  clear hlen hN
  generalize 4294967295 - s = c0 at *
  unfold maxLen at hn
  go_enter Tryd.func44, Tryd.ntmps44
  go_wp2_with fail
  clear h1
  go_loopw [5, 7, 12] (fun c5 _ c12 wr => CuR w c0 l c5 c12 wr) (fun _ _ c12 _ => n - (intOf c12).toNat)
  case atStart => exact ⟨0, rfl, by omega, rfl, (by repeat (first | with_reducible exact Below.refl _ _ | with_reducible assumption | with_reducible refine ExtD ?_ | with_reducible refine ExtDN ?_ | with_reducible refine ExtA ?_ | (with_reducible refine ExtR ?_ ?_; (first | omega | (dsimp only; omega) | (simp; done) | (simp; omega))) | (with_reducible refine ExtS ?_ ?_; (first | omega | (dsimp only; omega) | (simp; done) | (simp; omega))) | with_reducible refine Ext.tr ?_ (by with_reducible assumption)))⟩
  case round =>
    obtain ⟨k, rfl, hk, rfl, hx⟩ := hrel
    have HX := Lib.hid hx
    have hcl := creg_lt (l.take k) hc0
    by_cases hlt : k < n
    · obtain ⟨b, o, rfl, hcb⟩ := at_u8 hr hlt
      have e0 := HX.out.cell hcb
      have hst : Hid (creg c0 (l.take (k + 1)) = ctake (creg c0 (l.take k)) (l.getD k 0).toNat) := Lib.hid (by
        have hkl : k < l.length := by rw [Hlen.out]; exact hlt
        rw [List.take_succ_eq_append_getElem hkl, creg_snoc, List.getD_eq_getElem?_getD, List.getElem?_eq_getElem hkl]
        rfl)
      have hb := (l.getD k 0).toNat_lt
      clear hcb hx
      generalize (l.getD k 0).toNat = x at *
      generalize creg c0 (l.take k) = cc at *
      have K := Lib.hid (KS.out cc x wr HX.out hcl (by omega))
      go_wp2_with (go_at_call 49; (with_reducible refine (K.out).mono ?_); rintro e w5 ⟨rfl, hx5⟩)
      go_roundw
      case rel => exact ⟨k + 1, by go_num, by have := Hlen.out; omega, by rw [hst.out], HX.out.tr hx5⟩
      case measure => simp [intOf]; omega
    · have hkn : l.take k = l := List.take_of_length_le (by have := Hlen.out; omega)
      have h2 := compl_u32 (creg c0 l) (creg_lt l hc0)
      rw [hkn]
      clear hx
      go_wp2_with fail
      go_ret
      exact ⟨rfl, HX.out⟩
theorem sum_any (A : Option Addr) (n c : Nat) (l : List UInt8) (w : World) (hN : Nib w) (hr : Rd w A n (u8s l)) (hn : n ≤ maxLen) :
    Calls Tryd.prog 36 #[.slice A n c] w fun e w' => e = .returned (.int .u32 (csum l : Nat)) ∧ Ext w w' := by
  have K : Hid (∀ W, Ext w W → Calls Tryd.prog 44 #[.int .u32 0, .slice A n c] W fun e w' => e = .returned (.int .u32 (csum l : Nat)) ∧ Ext W w') := Lib.hid fun W hx => update_any 0 A n c l W (hN.ext hx) (by decide) (hr.ext hx) hn
  clear hN hr hn
  go_enter Tryd.func36, Tryd.ntmps36
  go_wp2_with (go_at_call 44; (with_reducible refine (K.out _ (Ext.rfl' _)).mono ?_); rintro e w5 ⟨rfl, hx5⟩)
  go_ret
  exact ⟨rfl, hx5⟩
theorem b8 (s : Nat) (h : s < 4294967296) : IntKind.u8.wrap (s : Int) = ((s % 256 : Nat) : Int) ∧ IntKind.u8.wrap ((s : Int) / 256) = ((s / 256 % 256 : Nat) : Int) ∧ IntKind.u8.wrap ((s : Int) / 65536) = ((s / 65536 % 256 : Nat) : Int) ∧ IntKind.u8.wrap ((s : Int) / 16777216) = ((s / 16777216 % 256 : Nat) : Int) := by
  refine ⟨?_, ?_, ?_, ?_⟩ <;> rw [IntKind.wrap_u8] <;> omega
theorem u8s_four (s : Nat) : u8s (four s) = [.int .u8 (s % 256 : Nat), .int .u8 (s / 256 % 256 : Nat), .int .u8 (s / 65536 % 256 : Nat), .int .u8 (s / 16777216 % 256 : Nat)] := by
  unfold u8s four
  simp only [List.map_cons, List.map_nil]
  rw [toNat_ofNat (by omega), toNat_ofNat (by omega), toNat_ofNat (by omega), toNat_ofNat (by omega)]
set_option maxRecDepth 100000 in
set_option maxHeartbeats 1000000 in
theorem four_any (s : Nat) (w : World) (h : s < 4294967296) : Calls Tryd.prog 35 #[.int .u32 (s : Nat)] w (NewB w (four s)) := by
  have hcells : #[Value.int .u8 ((s : Int) % 256), .int .u8 ((s : Int) / 256 % 256), .int .u8 ((s : Int) / 65536 % 256), .int .u8 ((s : Int) / 16777216)].toList = u8s (four s) := by
    rw [u8s_four]
    have h1 : (s : Int) % 256 = ((s % 256 : Nat) : Int) := by omega
    have h2 : (s : Int) / 256 % 256 = ((s / 256 % 256 : Nat) : Int) := by omega
    have h3 : (s : Int) / 65536 % 256 = ((s / 65536 % 256 : Nat) : Int) := by omega
    have h4 : (s : Int) / 16777216 = ((s / 16777216 % 256 : Nat) : Int) := by omega
    rw [h1, h2, h3, h4]
  have HC := Lib.hid hcells
  clear hcells
  go_enter Tryd.func35, Tryd.ntmps35
  go_wp2_with fail
  go_ret
  refine ⟨some ⟨w.heap.size, 0, none⟩, 4, rfl, (by repeat (first | with_reducible exact Below.refl _ _ | with_reducible assumption | with_reducible refine ExtD ?_ | with_reducible refine ExtDN ?_ | with_reducible refine ExtA ?_ | (with_reducible refine ExtR ?_ ?_; (first | omega | (dsimp only; omega) | (simp; done) | (simp; omega))) | (with_reducible refine ExtS ?_ ?_; (first | omega | (dsimp only; omega) | (simp; done) | (simp; omega))) | with_reducible refine Ext.tr ?_ (by with_reducible assumption))), ?_⟩
  rw [← HC.out]
  exact own_new w w.heap.size _ 5 4 (Nat.le_refl _) (by decide) rfl
def TkR (W : World) (c0 : Nat) (c0' c5 : Value) (wr : World) : Prop := ∃ k x : Nat, c5 = .int .i64 (k : Nat) ∧ k ≤ 8 ∧ c0' = .int .u32 (x : Nat) ∧ x < 4294967296 ∧ cbits (8 - k) x = c0 ∧ Ext W wr
set_option maxRecDepth 100000 in
set_option maxHeartbeats 2000000 in
theorem take_any (c b : Nat) (w : World) (hc : c < 4294967296) (hb : b < 256) : Calls Tryd.prog 48 #[.int .u32 (c : Nat), .int .u8 (b : Nat)] w fun e w' => e = .returned (.int .u32 (ctake c b : Nat)) ∧ Ext w w' := by
  have hx := xor_u32 c b hc (by omega)
  have hxl : c ^^^ b < 4294967296 := Nat.xor_lt_two_pow (n := 32) hc (by omega)
  have HT : Hid (cbits 8 (c ^^^ b) = ctake c b) := Lib.hid rfl
  generalize c ^^^ b = x at *
  generalize ctake c b = y at *
  go_enter Tryd.func48, Tryd.ntmps48
  go_wp2_with fail
  clear hx
  go_loopw [0, 5, 6] (fun c0 c5 _ wr => TkR w y c0 c5 wr) (fun _ c5 _ _ => 8 - (intOf c5).toNat)
  case atStart => exact ⟨0, x, rfl, by omega, rfl, hxl, HT.out, (by repeat (first | with_reducible exact Below.refl _ _ | with_reducible assumption | with_reducible refine ExtD ?_ | with_reducible refine ExtDN ?_ | with_reducible refine ExtA ?_ | (with_reducible refine ExtR ?_ ?_; (first | omega | (dsimp only; omega) | (simp; done) | (simp; omega))) | (with_reducible refine ExtS ?_ ?_; (first | omega | (dsimp only; omega) | (simp; done) | (simp; omega))) | with_reducible refine Ext.tr ?_ (by with_reducible assumption)))⟩
  case round =>
    obtain ⟨k, v, rfl, hk, rfl, hv, hcb, hx⟩ := hrel
    have HX := Lib.hid hx
    clear hx
    by_cases hlt : k < 8
    · have hcb2 : cbits (8 - (k + 1)) (cbit v) = y := by
        rw [← hcb, show 8 - k = 8 - (k + 1) + 1 by omega]; rfl
      have hbl := cbit_lt hv
      have h2 : (v : Int) % 2 = 0 ∨ (v : Int) % 2 = 1 := by omega
      rcases h2 with h2 | h2
      · have hcv : cbit v = v / 2 := by unfold cbit; rw [show v % 2 = 0 by omega, Nat.zero_mul, Nat.xor_zero]
        rw [hcv] at hcb2 hbl
        have HC := Lib.hid hcb2
        clear hcb hcb2 hcv
        go_wp2_with fail
        go_roundw
        case rel => exact ⟨k + 1, v / 2, by go_num, by omega, by go_num, hbl, HC.out, HX.out⟩
        case measure => simp [intOf]; omega
      · have hcv : cbit v = v / 2 ^^^ 3988292384 := by unfold cbit; rw [show v % 2 = 1 by omega, Nat.one_mul]; rfl
        have hbx : bits .xor .u32 ((v : Int) / 2) 3988292384 = ((cbit v : Nat) : Int) := by
          rw [hcv, show (v : Int) / 2 = ((v / 2 : Nat) : Int) by omega]
          exact xor_u32 (v / 2) 3988292384 (by omega) (by decide)
        have HC := Lib.hid hcb2
        clear hcb hcb2 hcv
        generalize cbit v = v' at *
        go_wp2_with fail
        go_roundw
        case rel => exact ⟨k + 1, v', by go_num, by omega, rfl, hbl, HC.out, HX.out⟩
        case measure => simp [intOf]; omega
    · obtain rfl : k = 8 := by omega
      have hvy : v = y := by simpa [cbits] using hcb
      subst hvy
      clear hcb
      go_wp2_with fail
      go_ret
      exact ⟨rfl, HX.out⟩
set_option maxRecDepth 100000 in
set_option maxHeartbeats 2000000 in
theorem rupdate_any (s : Nat) (A : Option Addr) (n c : Nat) (l : List UInt8) (w : World) (hs : s < 4294967296) (hr : Rd w A n (u8s l)) (hn : n ≤ maxLen) :
    Calls Tryd.prog 43 #[.int .u32 (s : Nat), .slice A n c] w fun e w' => e = .returned (.int .u32 (4294967295 - creg (4294967295 - s) l : Nat)) ∧ Ext w w' := by
  have hlen : l.length = n := by have := hr.1; rw [u8s_len] at this; exact this
  have Hlen := Lib.hid hlen
  have hc0 : 4294967295 - s < 4294967296 := by omega
  have KS := Lib.hid fun (c b : Nat) (W : World) (hc : c < 4294967296) (hb : b < 256) => take_any c b W hc hb
  have h1 : (4294967295 : Int) - (s : Int) = ((4294967295 - s : Nat) : Int) := by omega
  clear hlen
  generalize 4294967295 - s = c0 at *
  unfold maxLen at hn
  go_enter Tryd.func43, Tryd.ntmps43
  go_wp2_with fail
  clear h1
  go_loopw [5, 6] (fun c5 c6 wr => CuR w c0 l c5 c6 wr) (fun _ c6 _ => n - (intOf c6).toNat)
  case atStart => exact ⟨0, rfl, by omega, rfl, (by repeat (first | with_reducible exact Below.refl _ _ | with_reducible assumption | with_reducible refine ExtD ?_ | with_reducible refine ExtDN ?_ | with_reducible refine ExtA ?_ | (with_reducible refine ExtR ?_ ?_; (first | omega | (dsimp only; omega) | (simp; done) | (simp; omega))) | (with_reducible refine ExtS ?_ ?_; (first | omega | (dsimp only; omega) | (simp; done) | (simp; omega))) | with_reducible refine Ext.tr ?_ (by with_reducible assumption)))⟩
  case round =>
    obtain ⟨k, rfl, hk, rfl, hx⟩ := hrel
    have HX := Lib.hid hx
    have hcl := creg_lt (l.take k) hc0
    by_cases hlt : k < n
    · obtain ⟨b, o, rfl, hcb⟩ := at_u8 hr hlt
      have e0 := HX.out.cell hcb
      have hst : Hid (creg c0 (l.take (k + 1)) = ctake (creg c0 (l.take k)) (l.getD k 0).toNat) := Lib.hid (by
        have hkl : k < l.length := by rw [Hlen.out]; exact hlt
        rw [List.take_succ_eq_append_getElem hkl, creg_snoc, List.getD_eq_getElem?_getD, List.getElem?_eq_getElem hkl]
        rfl)
      have hb := (l.getD k 0).toNat_lt
      clear hcb hx
      generalize (l.getD k 0).toNat = x at *
      generalize creg c0 (l.take k) = cc at *
      have K := Lib.hid (KS.out cc x wr hcl (by omega))
      go_wp2_with (go_at_call 48; (with_reducible refine (K.out).mono ?_); rintro e w5 ⟨rfl, hx5⟩)
      go_roundw
      case rel => exact ⟨k + 1, by go_num, by have := Hlen.out; omega, by rw [hst.out], HX.out.tr hx5⟩
      case measure => simp [intOf]; omega
    · have hkn : l.take k = l := List.take_of_length_le (by have := Hlen.out; omega)
      have hcl2 := creg_lt l hc0
      have h2 : (4294967295 : Int) - (creg c0 l : Int) = ((4294967295 - creg c0 l : Nat) : Int) := by omega
      rw [hkn]
      clear hx
      go_wp2_with fail
      go_ret
      exact ⟨rfl, HX.out⟩
theorem rsum_any (A : Option Addr) (n c : Nat) (l : List UInt8) (w : World) (hr : Rd w A n (u8s l)) (hn : n ≤ maxLen) :
    Calls Tryd.prog 33 #[.slice A n c] w fun e w' => e = .returned (.int .u32 (csum l : Nat)) ∧ Ext w w' := by
  have K : Hid (∀ W, Ext w W → Calls Tryd.prog 43 #[.int .u32 0, .slice A n c] W fun e w' => e = .returned (.int .u32 (csum l : Nat)) ∧ Ext W w') := Lib.hid fun W hx => rupdate_any 0 A n c l W (by decide) (hr.ext hx) hn
  clear hr hn
  go_enter Tryd.func33, Tryd.ntmps33
  go_wp2_with (go_at_call 43; (with_reducible refine (K.out _ (Ext.rfl' _)).mono ?_); rintro e w5 ⟨rfl, hx5⟩)
  go_ret
  exact ⟨rfl, hx5⟩
set_option maxRecDepth 100000 in
set_option maxHeartbeats 1000000 in
theorem rfour_any (s : Nat) (w : World) (h : s < 4294967296) : Calls Tryd.prog 32 #[.int .u32 (s : Nat)] w (NewB w (four s)) := by
  have hcells : #[Value.int .u8 ((s : Int) % 256), .int .u8 ((s : Int) / 256 % 256), .int .u8 ((s : Int) / 65536 % 256), .int .u8 ((s : Int) / 16777216)].toList = u8s (four s) := by
    rw [u8s_four]
    have h1 : (s : Int) % 256 = ((s % 256 : Nat) : Int) := by omega
    have h2 : (s : Int) / 256 % 256 = ((s / 256 % 256 : Nat) : Int) := by omega
    have h3 : (s : Int) / 65536 % 256 = ((s / 65536 % 256 : Nat) : Int) := by omega
    have h4 : (s : Int) / 16777216 = ((s / 16777216 % 256 : Nat) : Int) := by omega
    rw [h1, h2, h3, h4]
  have HC := Lib.hid hcells
  clear hcells
  go_enter Tryd.func32, Tryd.ntmps32
  go_wp2_with fail
  go_ret
  refine ⟨some ⟨w.heap.size, 0, none⟩, 4, rfl, (by repeat (first | with_reducible exact Below.refl _ _ | with_reducible assumption | with_reducible refine ExtD ?_ | with_reducible refine ExtDN ?_ | with_reducible refine ExtA ?_ | (with_reducible refine ExtR ?_ ?_; (first | omega | (dsimp only; omega) | (simp; done) | (simp; omega))) | (with_reducible refine ExtS ?_ ?_; (first | omega | (dsimp only; omega) | (simp; done) | (simp; omega))) | with_reducible refine Ext.tr ?_ (by with_reducible assumption))), ?_⟩
  rw [← HC.out]
  exact own_new w w.heap.size _ 5 4 (Nat.le_refl _) (by decide) rfl
end Go.Proofs.YtjomgppbialeoaaDoor
