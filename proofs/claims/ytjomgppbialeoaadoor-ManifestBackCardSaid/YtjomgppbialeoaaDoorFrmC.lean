/-
  The walk of crc.Closed.
-/
import Derived.Test.YtjomgppbialeoaaDoorCrcW
import Derived.Test.YtjomgppbialeoaaDoorStepsG
import Derived.Shelf.RegionOpenPlain
namespace Go.Proofs.YtjomgppbialeoaaDoor
open Go.RowKit
set_option linter.unusedVariables false
set_option linter.unusedSimpArgs false
def closedB (l : List UInt8) : Bool := decide (4 ≤ l.length) && decide (l.drop (l.length - 4) = four (csum (l.take (l.length - 4))))
theorem eql_four (a b c d x y z u : Int) (w : World) :
    (binOp .eql 87 (.agg #[.int .u8 a, .int .u8 b, .int .u8 c, .int .u8 d]) (.agg #[.int .u8 x, .int .u8 y, .int .u8 z, .int .u8 u])).run Tryd.prog w = .ok (.bool (a == x && (b == y && (c == z && d == u)))) w := by
  have u5 := Tryd.underlying5
  have a5 : ∀ w, (isAgg 5).run Tryd.prog w = .ok false w := fun w => by kernel_rfl
  have z5 : ∀ w, (sizeOf 5).run Tryd.prog w = .ok 1 w := fun w => by kernel_rfl
  rw [run_eql_struct, show (10000 : Nat) = 9999 + 1 from rfl, Op.equalIn]
  simp only [Sem.run_bind, run_underlying Tryd.underlying87, Result.andThen_ok]
  simp only [Std.Legacy.Range.forIn_eq_forIn_range', Std.Legacy.Range.size, Nat.sub_zero, Nat.add_sub_cancel, Nat.div_one, List.range'_succ, List.range'_zero, List.forIn_cons, List.forIn_nil]
  go_simp
  by_cases h1 : a = x <;> by_cases h2 : b = y <;> by_cases h3 : c = z <;> by_cases h4 : d = u <;> simp [h1, h2, h3, h4]
theorem four_beq (x0 x1 x2 x3 y0 y1 y2 y3 : UInt8) : (decide ([x0, x1, x2, x3] = [y0, y1, y2, y3])) = (((x0.toNat : Int) == (y0.toNat : Int)) && (((x1.toNat : Int) == (y1.toNat : Int)) && (((x2.toNat : Int) == (y2.toNat : Int)) && ((x3.toNat : Int) == (y3.toNat : Int))))) := by
  have h : ∀ a b : UInt8, ((a.toNat : Int) == (b.toNat : Int)) = decide (a = b) := fun a b => by
    rw [Bool.eq_iff_iff]
    simp only [beq_iff_eq, decide_eq_true_eq]
    exact ⟨fun k => UInt8.toNat_inj.1 (by omega), fun k => by rw [k]⟩
  rw [h, h, h, h, Bool.eq_iff_iff]
  simp
set_option maxRecDepth 100000 in
set_option maxHeartbeats 4000000 in
theorem closed_any (A : Option Addr) (n c : Nat) (l : List UInt8) (w : World) (hN : Nib w) (hr : Rd w A n (u8s l)) (hnc : n ≤ c) (hn : n ≤ maxLen) :
    Calls Tryd.prog 46 #[.slice A n c] w fun e w' => e = .returned (.bool (closedB l)) ∧ Ext w w' := by
  have hlen : l.length = n := by have := hr.1; rw [u8s_len] at this; exact this
  have mixed : Tryd.prog.follows Departure.mixedOrders = true := by kernel_rfl
  unfold closedB
  rw [hlen]
  by_cases h4 : n < 4
  · have hf : Hid ((decide (4 ≤ n) && decide (l.drop (n - 4) = four (csum (l.take (n - 4))))) = false) := Lib.hid (by rw [decide_eq_false (by omega)]; rfl)
    have t1 : decide ((n : Int) - 4 < 0) = true := by simp; omega
    unfold maxLen at hn
    clear hlen
    go_enter Tryd.func46, Tryd.ntmps46
    go_wp2_with fail
    go_ret
    exact ⟨by rw [hf.out]; rfl, (by repeat (first | with_reducible exact Below.refl _ _ | with_reducible assumption | with_reducible refine ExtD ?_ | with_reducible refine ExtDN ?_ | with_reducible refine ExtA ?_ | (with_reducible refine ExtR ?_ ?_; (first | omega | (dsimp only; omega) | (simp; done) | (simp; omega))) | (with_reducible refine ExtS ?_ ?_; (first | omega | (dsimp only; omega) | (simp; done) | (simp; omega))) | with_reducible refine Ext.tr ?_ (by with_reducible assumption)))⟩
  · obtain ⟨m, hm⟩ : ∃ m, n = m + 4 := ⟨n - 4, by omega⟩
    subst hm
    obtain ⟨A1, hs1, hr1⟩ := slice_hi A (m + 4) c m (by omega) hnc
    obtain ⟨A2, hs2, hr2⟩ := slice_lo A (m + 4) c m (by omega) hnc
    have R1 := Lib.hid (hr1 w l hr)
    have R2 := hr2 w l hr
    rw [show m + 4 - m = 4 by omega] at R2 hs2
    rw [show m + 4 - 4 = m by omega]
    have e1 : ((m + 4 : Nat) : Int) - 4 = (m : Int) := by omega
    have t1 : decide ((m : Int) < 0) = false := by simp
    have KS := Lib.hid (sum_any A1 m c (l.take m) w hN R1.out (by unfold maxLen at hn ⊢; omega))
    have KF := Lib.hid fun W => four_any (csum (l.take m)) W (csum_lt _)
    unfold NewB at KF
    rw [show (four (csum (l.take m))).length = 4 from rfl] at KF
    obtain ⟨b, o, x0, x1, x2, x3, rfl, hd, c0, c1, c2, c3⟩ := rd_four R2
    rw [hd, decide_eq_true (show 4 ≤ m + 4 by omega), Bool.true_and]
    generalize four (csum (l.take m)) = F at *
    unfold maxLen at hn
    have hap : ∀ (a : Option Addr) (cap : Nat) (W : World), (Instr.arrayAt 87 (.slice a 4 cap)).run Tryd.prog W = .ok (.pointer a) W := fun a cap W => run_arrayAt W _ _ 4 a 4 cap Tryd.underlying87 (by decide)
    clear hlen hr1 hr2 hr R1 R2 hd hN
    go_enter Tryd.func46, Tryd.ntmps46
    go_wp2_with (go_at_call 36; (with_reducible refine (KS.out).mono ?_); rintro e w1 ⟨rfl, hx1⟩; have d0 := hx1.cell c0; have d1 := hx1.cell c1; have d2 := hx1.cell c2; have d3 := hx1.cell c3)
    have heq := fun (a b c d x y z u : Nat) => eql_four a b c d x y z u
    go_region_law_o (refine step_callG rfl _ rfl 35 _ Tryd.func35 (by kernel_rfl) (by kernel_rfl) _ _ rfl #[.int .u32 (csum (l.take m) : Nat)] (by simp [Act.eval, Act.put]) _ (KF.out _) ?_; rintro e w2 ⟨A6, c6, rfl, hx6, ho6⟩; have hx7 : Ext w1 w2 := (ExtD (Ext.rfl' w1)).tr hx6; have f0 := hx7.cell d0; have f1 := hx7.cell d1; have f2 := hx7.cell d2; have f3 := hx7.cell d3; obtain ⟨b6, o6, y0, y1, y2, y3, rfl, hF, g0, g1, g2, g3⟩ := rd_four (rd_own ho6); refine ⟨_, rfl, ?_⟩)
    all_goals
      go_wp2_with fail
      go_ret
      refine ⟨?_, (by repeat (first | with_reducible exact Below.refl _ _ | with_reducible assumption | with_reducible refine ExtD ?_ | with_reducible refine ExtDN ?_ | with_reducible refine ExtA ?_ | (with_reducible refine ExtR ?_ ?_; (first | omega | (dsimp only; omega) | (simp; done) | (simp; omega))) | (with_reducible refine ExtS ?_ ?_; (first | omega | (dsimp only; omega) | (simp; done) | (simp; omega))) | with_reducible refine Ext.tr ?_ (by with_reducible assumption)))⟩
      rw [hF, four_beq]
      rfl
end Go.Proofs.YtjomgppbialeoaaDoor
