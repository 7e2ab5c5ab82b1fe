/-
  The walk of math/bits.Div64.
-/
import Derived.Test.YtjajbbgebblalaaGreatDoorShelf
import Derived.Test.YtjajbbgebblalaaGreatDoorNumW1
import Derived.Test.YtjajbbgebblalaaGreatDoorLongP
import Derived.Deep.CutBlock
import Derived.Laws.MathBits
import Derived.Laws.ShiftsVarLaws
namespace Go.Proofs.YtjajbbgebblalaaGreatDoor
open Go.RowKit
set_option linter.unusedVariables false
set_option linter.unusedSimpArgs false
theorem ret_u2 {a b c d : Int} (h : a = b) (h2 : c = d) : Ending.returned (.tuple #[.int .u64 a, .int .u64 c]) = .returned (.tuple #[.int .u64 b, .int .u64 d]) := by rw [h, h2]
theorem unshift (z s : Nat) : ((z * 2 ^ s : Nat) : Int) / 2 ^ s = (z : Int) := by
  have h2 : z * 2 ^ s / 2 ^ s = z := Nat.mul_div_cancel _ (Nat.pow_pos (by decide))
  rw [show ((2 : Int) ^ s) = ((2 ^ s : Nat) : Int) by simp, ← Int.natCast_ediv, h2]
def GuessR (A c Y y1 y0 : Nat) (w : World) (qv rv : Value) (wr : World) : Prop := ∃ q r : Nat, qv = .int .u64 (q : Int) ∧ rv = .int .u64 (r : Int) ∧ Guess A c Y y1 y0 q r ∧ wr = w
set_option maxRecDepth 100000 in
set_option maxHeartbeats 2000000 in
theorem div64_hi (hi lo y : Nat) (w : World) (h1 : hi < y) (hy : y < 18446744073709551616) (hlo : lo < 18446744073709551616) (h0 : 0 < hi) :
    Calls Tryz.prog 239 #[.int .u64 hi, .int .u64 lo, .int .u64 y] w
      fun e w' => e = .returned (.tuple #[.int .u64 (((hi * 18446744073709551616 + lo) / y : Nat) : Int), .int .u64 (((hi * 18446744073709551616 + lo) % y : Nat) : Int)]) ∧ w' = w := by
  have hh : ((hi : Int) == 0) = false := by simp; omega
  have hyy : ((y : Int) == 0) = false := by simp; omega
  obtain ⟨s, hs, hbl, hY1, hY2⟩ := norm_spec y (by omega) hy
  have LZ : ∀ w : World, Calls Tryz.prog 252 #[.int .u64 (y : Int)] w fun e w' => e = .returned (.int .i64 (s : Int)) ∧ w = w' := fun w => by
    have h := Tryz.bits_LeadingZeros64 (y : Int) w (by omega) (by omega)
    rw [show (64 - (Lib.bitLen (y : Int).toNat : Int)) = (s : Int) by simp [hbl]; omega] at h
    exact h.mono fun _ _ ⟨a, b⟩ => ⟨a, b.symm⟩
  have HLZ := Lib.hid LZ
  have he := shift_split hi lo s hs
  have hA := shift_lt hi lo y s _ _ h1 hlo he
  have hhs : hi * 2 ^ s < 18446744073709551616 := Nat.lt_of_lt_of_le (Nat.mul_lt_mul_of_pos_right h1 (Nat.pow_pos (by decide))) (Nat.le_of_lt hY2)
  have E11 := Lib.hid (or_shift hi lo s hs hhs hlo)
  have E12 := Lib.hid (show IntKind.u64.wrap ((lo : Int) * 2 ^ s) = ((lo * 2 ^ s % 18446744073709551616 : Nat) : Int) by
    rw [show ((lo : Int) * 2 ^ s) = ((lo * 2 ^ s : Nat) : Int) by simp, IntKind.wrap_u64]; omega)
  have EY := Lib.hid (show IntKind.u64.wrap ((y : Int) * 2 ^ s) = ((y * 2 ^ s : Nat) : Int) by
    rw [show ((y : Int) * 2 ^ s) = ((y * 2 ^ s : Nat) : Int) by simp, IntKind.wrap_u64]; omega)
  have hL : lo * 2 ^ s % 18446744073709551616 < 18446744073709551616 := Nat.mod_lt _ (by decide)
  have hall := div_all (hi * 18446744073709551616 + lo) y s _ _ (lo * 2 ^ s % 18446744073709551616 / 4294967296) (lo * 2 ^ s % 18446744073709551616 % 4294967296) (by omega) he (by omega)
  have Hall := Lib.hid hall
  clear LZ hbl he hhs hall
  generalize hi * 2 ^ s + lo / 2 ^ (64 - s) = A at *
  generalize lo * 2 ^ s % 18446744073709551616 = L at *
  generalize y * 2 ^ s = Y at *
  obtain ⟨y1, Hy1⟩ : ∃ y1, Hid (y1 = Y / 4294967296) := ⟨_, rfl⟩
  obtain ⟨y0, Hy0⟩ : ∃ y0, Hid (y0 = Y % 4294967296) := ⟨_, rfl⟩
  obtain ⟨c1, Hc1⟩ : ∃ c1, Hid (c1 = L / 4294967296) := ⟨_, rfl⟩
  obtain ⟨c0, Hc0⟩ : ∃ c0, Hid (c0 = L % 4294967296) := ⟨_, rfl⟩
  have HYs : Hid (Y = y1 * 4294967296 + y0) := Lib.hid (by rw [Hy1.out, Hy0.out]; omega)
  have b0 : y0 < 4294967296 := by rw [Hy0.out]; omega
  have b1 : 2147483648 ≤ y1 := by rw [Hy1.out]; omega
  have b2 : y1 < 4294967296 := by rw [Hy1.out]; omega
  have b3 : c1 < 4294967296 := by rw [Hc1.out]; omega
  have b4 : c0 < 4294967296 := by rw [Hc0.out]; omega
  rw [← Hc1.out, ← Hc0.out] at Hall
  have F1 := Lib.hid (show (Y : Int) / 4294967296 = (y1 : Int) by rw [Hy1.out]; omega)
  have F0 := Lib.hid (show bits BinOp.and IntKind.u64 (Y : Int) 4294967295 = (y0 : Int) by rw [and_low32 _ (by omega) (by omega), Hy0.out]; omega)
  have G1 := Lib.hid (show (L : Int) / 4294967296 = (c1 : Int) by rw [Hc1.out]; omega)
  have G0 := Lib.hid (show bits BinOp.and IntKind.u64 (L : Int) 4294967295 = (c0 : Int) by rw [and_low32 _ (by omega) (by omega), Hc0.out]; omega)
  go_enter Tryz.func239, Tryz.ntmps239
  go_upto_region 9 with (go_at_call 252; go_must (with_reducible refine (HLZ.out _).mono ?_); rintro e w1 ⟨rfl, rfl⟩)
  rw [EY.out]
  go_upto_region 13 with fail
  rw [F1.out, F0.out, E11.out, E12.out]
  go_upto_region 15 with fail
  rw [G1.out, G0.out]
  go_upto_block 0 with fail
  have hA64 : A < 18446744073709551616 := by omega
  have J1 : IntKind.u64.wrap ((A : Int) / (y1 : Int)) = ((A / y1 : Nat) : Int) := by
    have : A / y1 ≤ A := Nat.div_le_self _ _
    rw [IntKind.wrap_u64, ← Int.natCast_ediv]
    generalize A / y1 = q at *
    omega
  have J2 : IntKind.u64.wrap ((A : Int) - IntKind.u64.wrap (((A / y1 : Nat) : Int) * (y1 : Int))) = ((A % y1 : Nat) : Int) := by
    have hm := Nat.div_add_mod A y1
    have e : (((A / y1 : Nat) : Int) * (y1 : Int)) = ((y1 * (A / y1) : Nat) : Int) := by rw [Nat.mul_comm]; simp
    rw [e, IntKind.wrap_u64, IntKind.wrap_u64]
    generalize y1 * (A / y1) = p at *
    omega
  rw [J1, J2]
  clear J1 J2
  have g1 := Lib.hid (guess_first (a := A) (c := c1) HYs.out b0 hY1 hY2 b3)
  have hYpos : 0 < Y := by omega
  obtain ⟨Q1, HQ1⟩ : ∃ Q1, Hid (Q1 = (A * 4294967296 + c1) / Y) := ⟨_, rfl⟩
  go_cut [15] (fun q w' => q = .int .u64 (Q1 : Int) ∧ w = w')
  case first =>
    go_wp2_with fail
    go_loopw [15, 16] (fun q r wr => GuessR A c1 Y y1 y0 w q r wr) (fun q _ _ => (intOf q).toNat)
    case atStart => exact ⟨_, _, rfl, rfl, g1.out, rfl⟩
    case round =>
      obtain ⟨q, r, rfl, rfl, g, rfl⟩ := hrel
      have Hg := Lib.hid g
      have hr := g.rlt
      have hq := q_bd g.eq b1 hA64
      clear g
      by_cases hbig : 4294967296 ≤ q
      · have hn := Lib.hid (guess_next Hg.out (guess_hi Hg.out HYs.out hA b3 hbig))
        have kb : (4294967296 : Int) ≤ (q : Int) := by omega
        clear hbig
        by_cases hov : 4294967296 ≤ r + y1
        · have Hov := Lib.hid hov
          have ko : (4294967296 : Int) ≤ (r : Int) + (y1 : Int) := by omega
          clear hov
          go_wp2_with fail
          go_meet
          case rel => exact ⟨by rw [HQ1.out, ← guess_over hn.out.1 hn.out.2.1 HYs.out b0 hA hYpos Hov.out]; go_num, rfl⟩
        · have Hov := Lib.hid hov
          have ko : (r : Int) + (y1 : Int) < 4294967296 := by omega
          have koF : decide ((4294967296 : Int) ≤ (r : Int) + (y1 : Int)) = false := by simp; omega
          clear hov
          go_wp2_with fail
          go_roundw
          case rel => exact ⟨q - 1, r + y1, by go_num, by go_num, ⟨hn.out.1, hn.out.2.1, by omega⟩, rfl⟩
          case measure => simp [intOf]; omega
      · have hp := qy0_bd (show q < 4294967296 by omega) b0
        have kb : (q : Int) < 4294967296 := by omega
        have kbF : decide ((4294967296 : Int) ≤ (q : Int)) = false := by simp; omega
        clear hbig
        obtain ⟨p, Hp⟩ : ∃ p, Hid (p = q * y0) := ⟨_, rfl⟩
        have ep : (q : Int) * (y0 : Int) = (p : Int) := by rw [Hp.out]; simp
        rw [← Hp.out] at hp
        have kp : (p : Int) < 18446744073709551616 := by omega
        clear hp
        by_cases hmore : 4294967296 * r + c1 < p
        · have hn := Lib.hid (guess_next Hg.out (guess_more Hg.out HYs.out hYpos (by rw [← Hp.out]; exact hmore)))
          have hq1 : (1 : Int) ≤ (q : Int) := by have := hn.out.2.2; omega
          have km : (4294967296 : Int) * (r : Int) + (c1 : Int) < (p : Int) := by omega
          clear hmore
          by_cases hov : 4294967296 ≤ r + y1
          · have Hov := Lib.hid hov
            have ko : (4294967296 : Int) ≤ (r : Int) + (y1 : Int) := by omega
            clear hov
            go_wp2_with fail
            go_meet
            case rel => exact ⟨by rw [HQ1.out, ← guess_over hn.out.1 hn.out.2.1 HYs.out b0 hA hYpos Hov.out]; go_num, rfl⟩
          · have Hov := Lib.hid hov
            have ko : (r : Int) + (y1 : Int) < 4294967296 := by omega
            have koF : decide ((4294967296 : Int) ≤ (r : Int) + (y1 : Int)) = false := by simp; omega
            clear hov
            go_wp2_with fail
            go_roundw
            case rel => exact ⟨q - 1, r + y1, by go_num, by go_num, ⟨hn.out.1, hn.out.2.1, by omega⟩, rfl⟩
            case measure => simp [intOf]; omega
        · have hd := Lib.hid (guess_done Hg.out HYs.out hYpos (by rw [← Hp.out]; omega))
          have km : (p : Int) ≤ (4294967296 : Int) * (r : Int) + (c1 : Int) := by omega
          have kmF : decide ((4294967296 : Int) * (r : Int) + (c1 : Int) < (p : Int)) = false := by simp; omega
          clear hmore
          go_wp2_with fail
          go_meet
          case rel => exact ⟨by rw [HQ1.out, ← hd.out], rfl⟩
  case rest =>
    obtain ⟨rfl, rfl⟩ := hcut
    obtain ⟨R, HR⟩ : ∃ R, Hid (R = (A * 4294967296 + c1) % Y) := ⟨_, rfl⟩
    have hR : R < Y := by rw [HR.out]; exact Nat.mod_lt _ hYpos
    have hR64 : R < 18446744073709551616 := by omega
    have J3 := Lib.hid (show IntKind.u64.wrap (IntKind.u64.wrap (IntKind.u64.wrap ((A : Int) * 4294967296) + (c1 : Int)) - IntKind.u64.wrap ((Q1 : Int) * (Y : Int))) = (R : Int) by
      have h := rest_eq (A * 4294967296 + c1) Q1 Y HQ1.out hYpos hY2
      rw [← HR.out] at h
      rw [IntKind.wrap_u64, IntKind.wrap_u64, IntKind.wrap_u64, IntKind.wrap_u64, ← h]
      generalize (Q1 : Int) * (Y : Int) = t
      omega)
    have g2 := Lib.hid (guess_first (a := R) (c := c0) HYs.out b0 hY1 hY2 b4)
    go_upto_region 22 with fail
    rw [J3.out]
    go_upto_block 2 with fail
    have K1 : IntKind.u64.wrap ((R : Int) / (y1 : Int)) = ((R / y1 : Nat) : Int) := by
      have : R / y1 ≤ R := Nat.div_le_self _ _
      rw [IntKind.wrap_u64, ← Int.natCast_ediv]
      generalize R / y1 = q at *
      omega
    have K2 : IntKind.u64.wrap ((R : Int) - IntKind.u64.wrap (((R / y1 : Nat) : Int) * (y1 : Int))) = ((R % y1 : Nat) : Int) := by
      have hm := Nat.div_add_mod R y1
      have e : (((R / y1 : Nat) : Int) * (y1 : Int)) = ((y1 * (R / y1) : Nat) : Int) := by rw [Nat.mul_comm]; simp
      rw [e, IntKind.wrap_u64, IntKind.wrap_u64]
      generalize y1 * (R / y1) = p at *
      omega
    rw [K1, K2]
    clear K1 K2
    obtain ⟨Q0, HQ0⟩ : ∃ Q0, Hid (Q0 = (R * 4294967296 + c0) / Y) := ⟨_, rfl⟩
    go_cut [18] (fun q w' => q = .int .u64 (Q0 : Int) ∧ w = w')
    case first =>
      go_wp2_with fail
      go_loopw [18, 16] (fun q r wr => GuessR R c0 Y y1 y0 w q r wr) (fun q _ _ => (intOf q).toNat)
      case atStart => exact ⟨_, _, rfl, rfl, g2.out, rfl⟩
      case round =>
        obtain ⟨q, r, rfl, rfl, g, rfl⟩ := hrel
        have Hg := Lib.hid g
        have hr := g.rlt
        have hq := q_bd g.eq b1 hR64
        clear g
        by_cases hbig : 4294967296 ≤ q
        · have hn := Lib.hid (guess_next Hg.out (guess_hi Hg.out HYs.out hR b4 hbig))
          have kb : (4294967296 : Int) ≤ (q : Int) := by omega
          clear hbig
          by_cases hov : 4294967296 ≤ r + y1
          · have Hov := Lib.hid hov
            have ko : (4294967296 : Int) ≤ (r : Int) + (y1 : Int) := by omega
            clear hov
            go_wp2_with fail
            go_meet
            case rel => exact ⟨by rw [HQ0.out, ← guess_over hn.out.1 hn.out.2.1 HYs.out b0 hR hYpos Hov.out]; go_num, rfl⟩
          · have Hov := Lib.hid hov
            have ko : (r : Int) + (y1 : Int) < 4294967296 := by omega
            have koF : decide ((4294967296 : Int) ≤ (r : Int) + (y1 : Int)) = false := by simp; omega
            clear hov
            go_wp2_with fail
            go_roundw
            case rel => exact ⟨q - 1, r + y1, by go_num, by go_num, ⟨hn.out.1, hn.out.2.1, by omega⟩, rfl⟩
            case measure => simp [intOf]; omega
        · have hp := qy0_bd (show q < 4294967296 by omega) b0
          have kb : (q : Int) < 4294967296 := by omega
          have kbF : decide ((4294967296 : Int) ≤ (q : Int)) = false := by simp; omega
          clear hbig
          obtain ⟨p, Hp⟩ : ∃ p, Hid (p = q * y0) := ⟨_, rfl⟩
          have ep : (q : Int) * (y0 : Int) = (p : Int) := by rw [Hp.out]; simp
          rw [← Hp.out] at hp
          have kp : (p : Int) < 18446744073709551616 := by omega
          clear hp
          by_cases hmore : 4294967296 * r + c0 < p
          · have hn := Lib.hid (guess_next Hg.out (guess_more Hg.out HYs.out hYpos (by rw [← Hp.out]; exact hmore)))
            have hq1 : (1 : Int) ≤ (q : Int) := by have := hn.out.2.2; omega
            have km : (4294967296 : Int) * (r : Int) + (c0 : Int) < (p : Int) := by omega
            clear hmore
            by_cases hov : 4294967296 ≤ r + y1
            · have Hov := Lib.hid hov
              have ko : (4294967296 : Int) ≤ (r : Int) + (y1 : Int) := by omega
              clear hov
              go_wp2_with fail
              go_meet
              case rel => exact ⟨by rw [HQ0.out, ← guess_over hn.out.1 hn.out.2.1 HYs.out b0 hR hYpos Hov.out]; go_num, rfl⟩
            · have Hov := Lib.hid hov
              have ko : (r : Int) + (y1 : Int) < 4294967296 := by omega
              have koF : decide ((4294967296 : Int) ≤ (r : Int) + (y1 : Int)) = false := by simp; omega
              clear hov
              go_wp2_with fail
              go_roundw
              case rel => exact ⟨q - 1, r + y1, by go_num, by go_num, ⟨hn.out.1, hn.out.2.1, by omega⟩, rfl⟩
              case measure => simp [intOf]; omega
          · have hd := Lib.hid (guess_done Hg.out HYs.out hYpos (by rw [← Hp.out]; omega))
            have km : (p : Int) ≤ (4294967296 : Int) * (r : Int) + (c0 : Int) := by omega
            have kmF : decide ((4294967296 : Int) * (r : Int) + (c0 : Int) < (p : Int)) = false := by simp; omega
            clear hmore
            go_wp2_with fail
            go_meet
            case rel => exact ⟨by rw [HQ0.out, ← hd.out], rfl⟩
    case rest =>
      obtain ⟨rfl, rfl⟩ := hcut
      obtain ⟨d1, d2⟩ := Hall.out
      rw [← HQ1.out, ← HR.out, ← HQ0.out] at d1
      rw [← HR.out] at d2
      have D1 := Lib.hid d1
      have D2 := Lib.hid d2
      clear d1 d2
      go_wp2_with fail
      go_ret2
      refine ⟨ret_u2 ?_ ?_, rfl⟩
      · have l1 : Q1 < 4294967296 := by rw [HQ1.out]; exact guess_lt hA b3
        have l0 : Q0 < 4294967296 := by rw [HQ0.out]; exact guess_lt hR b4
        rw [D1.out, IntKind.wrap_u64, IntKind.wrap_u64]
        omega
      · have h := rest_eq (R * 4294967296 + c0) Q0 Y HQ0.out hYpos hY2
        rw [← D2.out] at h
        have e : IntKind.u64.wrap (IntKind.u64.wrap (IntKind.u64.wrap ((R : Int) * 4294967296) + (c0 : Int)) - IntKind.u64.wrap ((Q0 : Int) * (Y : Int))) = (((hi * 18446744073709551616 + lo) % y * 2 ^ s : Nat) : Int) := by
          rw [IntKind.wrap_u64, IntKind.wrap_u64, IntKind.wrap_u64, IntKind.wrap_u64, ← h]
          generalize (Q0 : Int) * (Y : Int) = t
          omega
        rw [e]
        exact unshift _ s
theorem div64_any (hi lo y : Nat) (w : World) (h1 : hi < y) (hy : y < 18446744073709551616) (hlo : lo < 18446744073709551616) :
    Calls Tryz.prog 239 #[.int .u64 hi, .int .u64 lo, .int .u64 y] w
      fun e w' => e = .returned (.tuple #[.int .u64 (((hi * 18446744073709551616 + lo) / y : Nat) : Int), .int .u64 (((hi * 18446744073709551616 + lo) % y : Nat) : Int)]) ∧ Ext w w' := by
  by_cases h0 : 0 < hi
  · exact (div64_hi hi lo y w h1 hy hlo h0).mono fun _ _ ⟨a, b⟩ => ⟨a, by subst b; exact Below.refl _ _⟩
  · obtain rfl : hi = 0 := by omega
    have hyy : ((y : Int) == 0) = false := by simp; omega
    have e1 : IntKind.u64.wrap ((lo : Int) / (y : Int)) = ((lo / y : Nat) : Int) := by
      have : lo / y ≤ lo := Nat.div_le_self _ _
      rw [IntKind.wrap_u64, ← Int.natCast_ediv]
      generalize lo / y = q at *
      omega
    go_enter Tryz.func239, Tryz.ntmps239
    go_wp2_with fail
    go_quiet (fail)
    go_wp2_with fail
    go_ret2
    exact ⟨ret_u2 (by simp) (by simp), (by repeat (first | with_reducible exact Below.refl _ _ | with_reducible assumption | with_reducible refine ExtD ?_ | with_reducible refine ExtDN ?_ | with_reducible refine ExtA ?_ | (with_reducible refine ExtR ?_ ?_; (first | omega | (dsimp only; omega) | (simp; done) | (simp; omega))) | (with_reducible refine ExtS ?_ ?_; (first | omega | (dsimp only; omega) | (simp; done) | (simp; omega))) | with_reducible refine Ext.tr ?_ (by with_reducible assumption)))⟩
end Go.Proofs.YtjajbbgebblalaaGreatDoor
