/-
  The walks of the check sum: step, Update, Sum, Four; the reference's Take, Update, Sum, Four.
-/
/-
  The walk of crc.Closed.
-/
import Derived.Test.YtjajbbgebblalaaGreatDoorShrT
import Derived.Test.YtjajbbgebblalaaGreatDoorBytesW
import Derived.Test.YtjajbbgebblalaaGreatDoorCrcP
import Derived.Lib.EndianBits
import Derived.Test.YtjajbbgebblalaaGreatDoorHand
import Derived.Shelf.RegionOpenPlain
namespace Go.Proofs.YtjajbbgebblalaaGreatDoor
open Go.RowKit
set_option linter.unusedVariables false
set_option linter.unusedSimpArgs false
theorem xor_u32 (a b : Nat) (ha : a < 4294967296) (hb : b < 4294967296) : bits .xor .u32 (a : Int) (b : Int) = ((a ^^^ b : Nat) : Int) := by
  have hx : a ^^^ b < 2 ^ 32 := Nat.xor_lt_two_pow (by omega) (by omega)
  have h1 : (BitVec.ofInt 32 (a : Int)).toNat = a := by
    rw [BitVec.ofInt_natCast, BitVec.toNat_ofNat]; exact Nat.mod_eq_of_lt (by omega)
  have h2 : (BitVec.ofInt 32 (b : Int)).toNat = b := by
    rw [BitVec.ofInt_natCast, BitVec.toNat_ofNat]; exact Nat.mod_eq_of_lt (by omega)
  show IntKind.u32.wrap ((BitVec.ofInt 32 (a : Int) ^^^ BitVec.ofInt 32 (b : Int)).toNat : Int) = _
  rw [BitVec.toNat_xor, h1, h2, IntKind.wrap_u32]
  omega
theorem and15 (x : Nat) (h : x < 4294967296) : bits .and .u32 (x : Int) 15 = ((x % 16 : Nat) : Int) := by
  have := bits_mask .u32 32 (by decide) wraps_u32 4 (by decide) (x : Int) (by omega) (by omega)
  simpa using this
theorem div16 (x : Nat) : (x : Int) / 16 = ((x / 16 : Nat) : Int) := by omega
theorem nibs_lt : ∀ i, i < 16 → nibs.getD i 0 < 4294967296 := by decide
theorem cnib_lt {x : Nat} (h : x < 4294967296) : cnib x < 4294967296 := by rw [cnib_eq]; exact cbits_lt 4 h
/-- The table of nibbles lies in the program's variable. -/
def Nib (w : World) : Prop := ∀ i, i < 16 → w.cell? ⟨0, i, none⟩ = some (.int .u32 (nibs.getD i 0 : Nat))
theorem Nib.ext {w w' : World} (h : Nib w) (hx : Ext w w') : Nib w' := fun i hi => hx.cell (h i hi)
set_option maxRecDepth 100000 in
set_option maxHeartbeats 2000000 in
theorem step_anyC (c b : Nat) (w : World) (hN : Nib w) (hc : c < 4294967296) (hb : b < 256) : Calls Tryz.prog 215 #[.int .u32 (c : Nat), .int .u8 (b : Nat)] w fun e w' => e = .returned (.int .u32 (ctake c b : Nat)) ∧ Ext w w' := by
  have hx := xor_u32 c b hc (by omega)
  have hxl : c ^^^ b < 4294967296 := Nat.xor_lt_two_pow (n := 32) hc (by omega)
  have HT := Lib.hid (ctake_nib c b)
  generalize c ^^^ b = x at *
  have h2 := and15 x hxl
  have e1 := hN (x % 16) (by omega)
  have hn1 := nibs_lt (x % 16) (by omega)
  have h4 : bits .xor .u32 ((x : Int) / 16) ((nibs.getD (x % 16) 0 : Nat) : Int) = ((cnib x : Nat) : Int) := by rw [div16, xor_u32 _ _ (by omega) hn1]; rfl
  have hyl := cnib_lt hxl
  generalize nibs.getD (x % 16) 0 = n1 at *
  generalize cnib x = y at *
  have h5 := and15 y hyl
  have e2 := hN (y % 16) (by omega)
  have hn2 := nibs_lt (y % 16) (by omega)
  have h7 : bits .xor .u32 ((y : Int) / 16) ((nibs.getD (y % 16) 0 : Nat) : Int) = ((cnib y : Nat) : Int) := by rw [div16, xor_u32 _ _ (by omega) hn2]; rfl
  generalize nibs.getD (y % 16) 0 = n2 at *
  have m1 : x % 16 < 16 := by omega
  have m2 : y % 16 < 16 := by omega
  generalize x % 16 = r1 at *
  generalize y % 16 = r2 at *
  clear hN
  go_enter Tryz.func215, Tryz.ntmps215
  go_wp2_with fail
  go_ret
  exact ⟨by rw [HT.out]; rfl, exA⟩
theorem not_u32 (a : Nat) (ha : a < 4294967296) : a ^^^ 4294967295 = 4294967295 - a := by
  have h := congrArg BitVec.toNat (BitVec.xor_allOnes (x := BitVec.ofNat 32 a))
  rw [BitVec.toNat_xor, BitVec.toNat_not, BitVec.toNat_allOnes, BitVec.toNat_ofNat, Nat.mod_eq_of_lt (by exact ha)] at h
  exact h
theorem compl_u32 (a : Nat) (ha : a < 4294967296) : bits .xor .u32 IntKind.u32.max (a : Int) = ((4294967295 - a : Nat) : Int) := by
  have h : IntKind.u32.max = ((4294967295 : Nat) : Int) := by decide
  rw [h, xor_u32 _ _ (by decide) ha, Nat.xor_comm, not_u32 a ha]
def CuR (W : World) (c0 : Nat) (l : List UInt8) (c5 c12 : Value) (wr : World) : Prop := ∃ k : Nat, c12 = .int .i64 (k : Nat) ∧ k ≤ l.length ∧ c5 = .int .u32 (creg c0 (l.take k) : Nat) ∧ Ext W wr
set_option maxRecDepth 100000 in
set_option maxHeartbeats 2000000 in
theorem update_any (s : Nat) (A : Option Addr) (n c : Nat) (l : List UInt8) (w : World) (hN : Nib w) (hs : s < 4294967296) (hr : Rd w A n (u8s l)) (hn : n ≤ maxLen) :
    Calls Tryz.prog 162 #[.int .u32 (s : Nat), .slice A n c] w fun e w' => e = .returned (.int .u32 (4294967295 - creg (4294967295 - s) l : Nat)) ∧ Ext w w' := by
  have hlen : l.length = n := by have := hr.1; rw [u8s_len] at this; exact this
  have Hlen := Lib.hid hlen
  have hc0 : 4294967295 - s < 4294967296 := by omega
  have KS := Lib.hid fun (c b : Nat) (W : World) (hx : Ext w W) (hc : c < 4294967296) (hb : b < 256) => step_anyC c b W (hN.ext hx) hc hb
  have h1 := compl_u32 s hs
  clear hlen hN
  generalize 4294967295 - s = c0 at *
  unfold maxLen at hn
  go_enter Tryz.func162, Tryz.ntmps162
  go_wp2_with fail
  clear h1
  go_loopw [5, 7, 12] (fun c5 _ c12 wr => CuR w c0 l c5 c12 wr) (fun _ _ c12 _ => n - (intOf c12).toNat)
  case atStart => exact ⟨0, rfl, by omega, rfl, exA⟩
  case round =>
    obtain ⟨k, rfl, hk, rfl, hx⟩ := hrel
    have HX := Lib.hid hx
    have hcl := creg_lt (l.take k) hc0
    by_cases hlt : k < n
    · obtain ⟨b, o, rfl, hcb⟩ := at_u8 hr hlt
      have e0 := HX.out.cell hcb
      have hst : Hid (creg c0 (l.take (k + 1)) = ctake (creg c0 (l.take k)) (l.getD k 0).toNat) := Lib.hid (by
        have hkl : k < l.length := by rw [Hlen.out]; exact hlt
        rw [List.take_succ_eq_append_getElem hkl, creg_snoc, List.getD_eq_getElem?_getD, List.getElem?_eq_getElem hkl]
        rfl)
      have hb := (l.getD k 0).toNat_lt
      clear hcb hx
      generalize (l.getD k 0).toNat = x at *
      generalize creg c0 (l.take k) = cc at *
      have K := Lib.hid (KS.out cc x wr HX.out hcl (by omega))
      go_wp2_with (go_at_call 215; (with_reducible refine (K.out).mono ?_); rintro e w5 ⟨rfl, hx5⟩)
      go_roundw
      case rel => exact ⟨k + 1, by go_num, by have := Hlen.out; omega, by rw [hst.out], HX.out.tr hx5⟩
      case measure => simp [intOf]; omega
    · have hkn : l.take k = l := List.take_of_length_le (by have := Hlen.out; omega)
      have h2 := compl_u32 (creg c0 l) (creg_lt l hc0)
      rw [hkn]
      clear hx
      go_wp2_with fail
      go_ret
      exact ⟨rfl, HX.out⟩
theorem sum_any (A : Option Addr) (n c : Nat) (l : List UInt8) (w : World) (hN : Nib w) (hr : Rd w A n (u8s l)) (hn : n ≤ maxLen) :
    Calls Tryz.prog 119 #[.slice A n c] w fun e w' => e = .returned (.int .u32 (csum l : Nat)) ∧ Ext w w' := by
  have K : Hid (∀ W, Ext w W → Calls Tryz.prog 162 #[.int .u32 0, .slice A n c] W fun e w' => e = .returned (.int .u32 (csum l : Nat)) ∧ Ext W w') := Lib.hid fun W hx => update_any 0 A n c l W (hN.ext hx) (by decide) (hr.ext hx) hn
  clear hN hr hn
  go_enter Tryz.func119, Tryz.ntmps119
  go_wp2_with (go_at_call 162; (with_reducible refine (K.out _ (Ext.rfl' _)).mono ?_); rintro e w5 ⟨rfl, hx5⟩)
  go_ret
  exact ⟨rfl, hx5⟩
theorem b8 (s : Nat) (h : s < 4294967296) : IntKind.u8.wrap (s : Int) = ((s % 256 : Nat) : Int) ∧ IntKind.u8.wrap ((s : Int) / 256) = ((s / 256 % 256 : Nat) : Int) ∧ IntKind.u8.wrap ((s : Int) / 65536) = ((s / 65536 % 256 : Nat) : Int) ∧ IntKind.u8.wrap ((s : Int) / 16777216) = ((s / 16777216 % 256 : Nat) : Int) := by
  refine ⟨?_, ?_, ?_, ?_⟩ <;> rw [IntKind.wrap_u8] <;> omega
theorem u8s_four (s : Nat) : u8s (four s) = [.int .u8 (s % 256 : Nat), .int .u8 (s / 256 % 256 : Nat), .int .u8 (s / 65536 % 256 : Nat), .int .u8 (s / 16777216 % 256 : Nat)] := by
  unfold u8s four
  simp only [List.map_cons, List.map_nil]
  rw [toNat_ofNat (by omega), toNat_ofNat (by omega), toNat_ofNat (by omega), toNat_ofNat (by omega)]
set_option maxRecDepth 100000 in
set_option maxHeartbeats 1000000 in
theorem four_any (s : Nat) (w : World) (h : s < 4294967296) : Calls Tryz.prog 118 #[.int .u32 (s : Nat)] w (NewB w (four s)) := by
  have hcells : #[Value.int .u8 ((s : Int) % 256), .int .u8 ((s : Int) / 256 % 256), .int .u8 ((s : Int) / 65536 % 256), .int .u8 ((s : Int) / 16777216)].toList = u8s (four s) := by
    rw [u8s_four]
    have h1 : (s : Int) % 256 = ((s % 256 : Nat) : Int) := by omega
    have h2 : (s : Int) / 256 % 256 = ((s / 256 % 256 : Nat) : Int) := by omega
    have h3 : (s : Int) / 65536 % 256 = ((s / 65536 % 256 : Nat) : Int) := by omega
    have h4 : (s : Int) / 16777216 = ((s / 16777216 % 256 : Nat) : Int) := by omega
    rw [h1, h2, h3, h4]
  have HC := Lib.hid hcells
  clear hcells
  go_enter Tryz.func118, Tryz.ntmps118
  go_wp2_with fail
  go_ret
  refine ⟨some ⟨w.heap.size, 0, none⟩, 4, rfl, exA, ?_⟩
  rw [← HC.out]
  exact own_new w w.heap.size _ 5 4 (Nat.le_refl _) (by decide) rfl
def TkR (W : World) (c0 : Nat) (c0' c5 : Value) (wr : World) : Prop := ∃ k x : Nat, c5 = .int .i64 (k : Nat) ∧ k ≤ 8 ∧ c0' = .int .u32 (x : Nat) ∧ x < 4294967296 ∧ cbits (8 - k) x = c0 ∧ Ext W wr
set_option maxRecDepth 100000 in
set_option maxHeartbeats 2000000 in
theorem ctake_any (c b : Nat) (w : World) (hc : c < 4294967296) (hb : b < 256) : Calls Tryz.prog 195 #[.int .u32 (c : Nat), .int .u8 (b : Nat)] w fun e w' => e = .returned (.int .u32 (ctake c b : Nat)) ∧ Ext w w' := by
  have hx := xor_u32 c b hc (by omega)
  have hxl : c ^^^ b < 4294967296 := Nat.xor_lt_two_pow (n := 32) hc (by omega)
  have HT : Hid (cbits 8 (c ^^^ b) = ctake c b) := Lib.hid rfl
  generalize c ^^^ b = x at *
  generalize ctake c b = y at *
  go_enter Tryz.func195, Tryz.ntmps195
  go_wp2_with fail
  clear hx
  go_loopw [0, 5, 6] (fun c0 c5 _ wr => TkR w y c0 c5 wr) (fun _ c5 _ _ => 8 - (intOf c5).toNat)
  case atStart => exact ⟨0, x, rfl, by omega, rfl, hxl, HT.out, exA⟩
  case round =>
    obtain ⟨k, v, rfl, hk, rfl, hv, hcb, hx⟩ := hrel
    have HX := Lib.hid hx
    clear hx
    by_cases hlt : k < 8
    · have hcb2 : cbits (8 - (k + 1)) (cbit v) = y := by
        rw [← hcb, show 8 - k = 8 - (k + 1) + 1 by omega]; rfl
      have hbl := cbit_lt hv
      have h2 : (v : Int) % 2 = 0 ∨ (v : Int) % 2 = 1 := by omega
      rcases h2 with h2 | h2
      · have hcv : cbit v = v / 2 := by unfold cbit; rw [show v % 2 = 0 by omega, Nat.zero_mul, Nat.xor_zero]
        rw [hcv] at hcb2 hbl
        have HC := Lib.hid hcb2
        clear hcb hcb2 hcv
        go_wp2_with fail
        go_roundw
        case rel => exact ⟨k + 1, v / 2, by go_num, by omega, by go_num, hbl, HC.out, HX.out⟩
        case measure => simp [intOf]; omega
      · have hcv : cbit v = v / 2 ^^^ 3988292384 := by unfold cbit; rw [show v % 2 = 1 by omega, Nat.one_mul]; rfl
        have hbx : bits .xor .u32 ((v : Int) / 2) 3988292384 = ((cbit v : Nat) : Int) := by
          rw [hcv, show (v : Int) / 2 = ((v / 2 : Nat) : Int) by omega]
          exact xor_u32 (v / 2) 3988292384 (by omega) (by decide)
        have HC := Lib.hid hcb2
        clear hcb hcb2 hcv
        generalize cbit v = v' at *
        go_wp2_with fail
        go_roundw
        case rel => exact ⟨k + 1, v', by go_num, by omega, rfl, hbl, HC.out, HX.out⟩
        case measure => simp [intOf]; omega
    · obtain rfl : k = 8 := by omega
      have hvy : v = y := by simpa [cbits] using hcb
      subst hvy
      clear hcb
      go_wp2_with fail
      go_ret
      exact ⟨rfl, HX.out⟩
set_option maxRecDepth 100000 in
set_option maxHeartbeats 2000000 in
theorem rupdate_any (s : Nat) (A : Option Addr) (n c : Nat) (l : List UInt8) (w : World) (hs : s < 4294967296) (hr : Rd w A n (u8s l)) (hn : n ≤ maxLen) :
    Calls Tryz.prog 147 #[.int .u32 (s : Nat), .slice A n c] w fun e w' => e = .returned (.int .u32 (4294967295 - creg (4294967295 - s) l : Nat)) ∧ Ext w w' := by
  have hlen : l.length = n := by have := hr.1; rw [u8s_len] at this; exact this
  have Hlen := Lib.hid hlen
  have hc0 : 4294967295 - s < 4294967296 := by omega
  have KS := Lib.hid fun (c b : Nat) (W : World) (hc : c < 4294967296) (hb : b < 256) => ctake_any c b W hc hb
  have h1 : (4294967295 : Int) - (s : Int) = ((4294967295 - s : Nat) : Int) := by omega
  clear hlen
  generalize 4294967295 - s = c0 at *
  unfold maxLen at hn
  go_enter Tryz.func147, Tryz.ntmps147
  go_wp2_with fail
  clear h1
  go_loopw [5, 6] (fun c5 c6 wr => CuR w c0 l c5 c6 wr) (fun _ c6 _ => n - (intOf c6).toNat)
  case atStart => exact ⟨0, rfl, by omega, rfl, exA⟩
  case round =>
    obtain ⟨k, rfl, hk, rfl, hx⟩ := hrel
    have HX := Lib.hid hx
    have hcl := creg_lt (l.take k) hc0
    by_cases hlt : k < n
    · obtain ⟨b, o, rfl, hcb⟩ := at_u8 hr hlt
      have e0 := HX.out.cell hcb
      have hst : Hid (creg c0 (l.take (k + 1)) = ctake (creg c0 (l.take k)) (l.getD k 0).toNat) := Lib.hid (by
        have hkl : k < l.length := by rw [Hlen.out]; exact hlt
        rw [List.take_succ_eq_append_getElem hkl, creg_snoc, List.getD_eq_getElem?_getD, List.getElem?_eq_getElem hkl]
        rfl)
      have hb := (l.getD k 0).toNat_lt
      clear hcb hx
      generalize (l.getD k 0).toNat = x at *
      generalize creg c0 (l.take k) = cc at *
      have K := Lib.hid (KS.out cc x wr hcl (by omega))
      go_wp2_with (go_at_call 195; (with_reducible refine (K.out).mono ?_); rintro e w5 ⟨rfl, hx5⟩)
      go_roundw
      case rel => exact ⟨k + 1, by go_num, by have := Hlen.out; omega, by rw [hst.out], HX.out.tr hx5⟩
      case measure => simp [intOf]; omega
    · have hkn : l.take k = l := List.take_of_length_le (by have := Hlen.out; omega)
      have hcl2 := creg_lt l hc0
      have h2 : (4294967295 : Int) - (creg c0 l : Int) = ((4294967295 - creg c0 l : Nat) : Int) := by omega
      rw [hkn]
      clear hx
      go_wp2_with fail
      go_ret
      exact ⟨rfl, HX.out⟩
theorem rsum_any (A : Option Addr) (n c : Nat) (l : List UInt8) (w : World) (hr : Rd w A n (u8s l)) (hn : n ≤ maxLen) :
    Calls Tryz.prog 107 #[.slice A n c] w fun e w' => e = .returned (.int .u32 (csum l : Nat)) ∧ Ext w w' := by
  have K : Hid (∀ W, Ext w W → Calls Tryz.prog 147 #[.int .u32 0, .slice A n c] W fun e w' => e = .returned (.int .u32 (csum l : Nat)) ∧ Ext W w') := Lib.hid fun W hx => rupdate_any 0 A n c l W (by decide) (hr.ext hx) hn
  clear hr hn
  go_enter Tryz.func107, Tryz.ntmps107
  go_wp2_with (go_at_call 147; (with_reducible refine (K.out _ (Ext.rfl' _)).mono ?_); rintro e w5 ⟨rfl, hx5⟩)
  go_ret
  exact ⟨rfl, hx5⟩
set_option maxRecDepth 100000 in
set_option maxHeartbeats 1000000 in
theorem rfour_any (s : Nat) (w : World) (h : s < 4294967296) : Calls Tryz.prog 106 #[.int .u32 (s : Nat)] w (NewB w (four s)) := by
  have hcells : #[Value.int .u8 ((s : Int) % 256), .int .u8 ((s : Int) / 256 % 256), .int .u8 ((s : Int) / 65536 % 256), .int .u8 ((s : Int) / 16777216)].toList = u8s (four s) := by
    rw [u8s_four]
    have h1 : (s : Int) % 256 = ((s % 256 : Nat) : Int) := by omega
    have h2 : (s : Int) / 256 % 256 = ((s / 256 % 256 : Nat) : Int) := by omega
    have h3 : (s : Int) / 65536 % 256 = ((s / 65536 % 256 : Nat) : Int) := by omega
    have h4 : (s : Int) / 16777216 = ((s / 16777216 % 256 : Nat) : Int) := by omega
    rw [h1, h2, h3, h4]
  have HC := Lib.hid hcells
  clear hcells
  go_enter Tryz.func106, Tryz.ntmps106
  go_wp2_with fail
  go_ret
  refine ⟨some ⟨w.heap.size, 0, none⟩, 4, rfl, exA, ?_⟩
  rw [← HC.out]
  exact own_new w w.heap.size _ 5 4 (Nat.le_refl _) (by decide) rfl
end Go.Proofs.YtjajbbgebblalaaGreatDoor

namespace Go.Proofs.YtjajbbgebblalaaGreatDoor
open Go.RowKit
set_option linter.unusedVariables false
set_option linter.unusedSimpArgs false
def closedB (l : List UInt8) : Bool := decide (4 ≤ l.length) && decide (l.drop (l.length - 4) = four (csum (l.take (l.length - 4))))
theorem eql_four (a b c d x y z u : Int) (w : World) :
    (binOp .eql 289 (.agg #[.int .u8 a, .int .u8 b, .int .u8 c, .int .u8 d]) (.agg #[.int .u8 x, .int .u8 y, .int .u8 z, .int .u8 u])).run Tryz.prog w = .ok (.bool (a == x && (b == y && (c == z && d == u)))) w := by
  have u5 := Tryz.underlying5
  have a5 : ∀ w, (isAgg 5).run Tryz.prog w = .ok false w := fun w => by kernel_rfl
  have z5 : ∀ w, (sizeOf 5).run Tryz.prog w = .ok 1 w := fun w => by kernel_rfl
  rw [run_eql_struct, show (10000 : Nat) = 9999 + 1 from rfl, Op.equalIn]
  simp only [Sem.run_bind, run_underlying Tryz.underlying289, Result.andThen_ok]
  simp only [Std.Legacy.Range.forIn_eq_forIn_range', Std.Legacy.Range.size, Nat.sub_zero, Nat.add_sub_cancel, Nat.div_one, List.range'_succ, List.range'_zero, List.forIn_cons, List.forIn_nil]
  go_simp
  by_cases h1 : a = x <;> by_cases h2 : b = y <;> by_cases h3 : c = z <;> by_cases h4 : d = u <;> simp [h1, h2, h3, h4]
theorem four_beq (x0 x1 x2 x3 y0 y1 y2 y3 : UInt8) : (decide ([x0, x1, x2, x3] = [y0, y1, y2, y3])) = (((x0.toNat : Int) == (y0.toNat : Int)) && (((x1.toNat : Int) == (y1.toNat : Int)) && (((x2.toNat : Int) == (y2.toNat : Int)) && ((x3.toNat : Int) == (y3.toNat : Int))))) := by
  have h : ∀ a b : UInt8, ((a.toNat : Int) == (b.toNat : Int)) = decide (a = b) := fun a b => by
    rw [Bool.eq_iff_iff]
    simp only [beq_iff_eq, decide_eq_true_eq]
    exact ⟨fun k => UInt8.toNat_inj.1 (by omega), fun k => by rw [k]⟩
  rw [h, h, h, h, Bool.eq_iff_iff]
  simp
set_option maxRecDepth 100000 in
set_option maxHeartbeats 4000000 in
theorem closed_any (A : Option Addr) (n c : Nat) (l : List UInt8) (w : World) (hN : Nib w) (hr : Rd w A n (u8s l)) (hnc : n ≤ c) (hn : n ≤ maxLen) :
    Calls Tryz.prog 169 #[.slice A n c] w fun e w' => e = .returned (.bool (closedB l)) ∧ Ext w w' := by
  have hlen : l.length = n := by have := hr.1; rw [u8s_len] at this; exact this
  have mixed : Tryz.prog.follows Departure.mixedOrders = true := by kernel_rfl
  unfold closedB
  rw [hlen]
  by_cases h4 : n < 4
  · have hf : Hid ((decide (4 ≤ n) && decide (l.drop (n - 4) = four (csum (l.take (n - 4))))) = false) := Lib.hid (by rw [decide_eq_false (by omega)]; rfl)
    have t1 : decide ((n : Int) - 4 < 0) = true := by simp; omega
    unfold maxLen at hn
    clear hlen
    go_enter Tryz.func169, Tryz.ntmps169
    go_wp2_with fail
    go_ret
    exact ⟨by rw [hf.out]; rfl, exA⟩
  · obtain ⟨m, hm⟩ : ∃ m, n = m + 4 := ⟨n - 4, by omega⟩
    subst hm
    obtain ⟨A1, hs1, hr1⟩ := slice_hi A (m + 4) c m (by omega) hnc
    obtain ⟨A2, hs2, hr2⟩ := slice_lo A (m + 4) c m (by omega) hnc
    have R1 := Lib.hid (hr1 w l hr)
    have R2 := hr2 w l hr
    rw [show m + 4 - m = 4 by omega] at R2 hs2
    rw [show m + 4 - 4 = m by omega]
    have e1 : ((m + 4 : Nat) : Int) - 4 = (m : Int) := by omega
    have t1 : decide ((m : Int) < 0) = false := by simp
    have KS := Lib.hid (sum_any A1 m c (l.take m) w hN R1.out (by unfold maxLen at hn ⊢; omega))
    have KF := Lib.hid fun W => four_any (csum (l.take m)) W (csum_lt _)
    unfold NewB at KF
    rw [show (four (csum (l.take m))).length = 4 from rfl] at KF
    obtain ⟨b, o, x0, x1, x2, x3, rfl, hd, c0, c1, c2, c3⟩ := rd_four R2
    rw [hd, decide_eq_true (show 4 ≤ m + 4 by omega), Bool.true_and]
    generalize four (csum (l.take m)) = F at *
    unfold maxLen at hn
    have hap : ∀ (a : Option Addr) (cap : Nat) (W : World), (Instr.arrayAt 289 (.slice a 4 cap)).run Tryz.prog W = .ok (.pointer a) W := fun a cap W => run_arrayAt W _ _ 4 a 4 cap Tryz.underlying289 (by decide)
    clear hlen hr1 hr2 hr R1 R2 hd hN
    go_enter Tryz.func169, Tryz.ntmps169
    go_wp2_with (go_at_call 119; (with_reducible refine (KS.out).mono ?_); rintro e w1 ⟨rfl, hx1⟩; have d0 := hx1.cell c0; have d1 := hx1.cell c1; have d2 := hx1.cell c2; have d3 := hx1.cell c3)
    have heq := fun (a b c d x y z u : Nat) => eql_four a b c d x y z u
    go_region_law_o (refine step_callG rfl _ rfl 118 _ Tryz.func118 (by kernel_rfl) (by kernel_rfl) _ _ rfl #[.int .u32 (csum (l.take m) : Nat)] (by simp [Act.eval, Act.put]) _ (KF.out _) ?_; rintro e w2 ⟨A6, c6, rfl, hx6, ho6⟩; have hx7 : Ext w1 w2 := (ExtD (Ext.rfl' w1)).tr hx6; have f0 := hx7.cell d0; have f1 := hx7.cell d1; have f2 := hx7.cell d2; have f3 := hx7.cell d3; obtain ⟨b6, o6, y0, y1, y2, y3, rfl, hF, g0, g1, g2, g3⟩ := rd_four (rd_own ho6); refine ⟨_, rfl, ?_⟩)
    all_goals
      go_wp2_with fail
      go_ret
      refine ⟨?_, exA⟩
      rw [hF, four_beq]
      rfl
end Go.Proofs.YtjajbbgebblalaaGreatDoor
