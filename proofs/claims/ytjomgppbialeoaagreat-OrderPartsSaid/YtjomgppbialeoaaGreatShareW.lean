/-
  The walk of num.Share.
-/
import Derived.Test.YtjomgppbialeoaaGreatShareR
import Derived.Test.YtjomgppbialeoaaGreatNumW3
namespace Go.Proofs.YtjomgppbialeoaaGreat
open Go.RowKit
set_option linter.unusedVariables false
set_option linter.unusedSimpArgs false
def ShR1 (w : World) (n : Nat) (l : List Int) (i : Value) (wr : World) : Prop := ∃ k : Nat, k ≤ n ∧ i = .int .i64 k ∧ (∀ j, j < k → 0 ≤ l[j]?.getD 0) ∧ w = wr
def ShR2 (w : World) (g n T : Nat) (l : List Int) (left i : Value) (wr : World) : Prop :=
  ∃ k : Nat, k ≤ n ∧ i = .int .i64 k ∧ left = .int .i64 (shL T l k : Nat) ∧ Ext w wr ∧ Blk wr g 2 (rowA .i64 n (partF k (shQ T l))) ∧ Blk wr (g + 1) 61 (rowA .u64 n (partF k (shR T l)))
def ShR3 (w : World) (g n T : Nat) (l : List Int) (left : Value) (wr : World) : Prop :=
  ∃ k : Nat, k ≤ shL T l n ∧ left = .int .i64 ((shL T l n : Nat) - (k : Nat) : Int) ∧ Ext w wr ∧ Blk wr g 2 (rowA .i64 n (fun i => shQ T l i + (shC T l k i).toNat)) ∧ Blk wr (g + 1) 61 (rowA .u64 n (rz (shR T l) (shC T l k)))
def SharePost (w : World) (t : Int) (l : List Int) (n : Nat) (e : Ending) (w' : World) : Prop :=
  Ext w w' ∧ (¬ shOk t l → e = BAD) ∧ (shOk t l → ∃ g, w.heap.size ≤ g ∧ e = .returned (.tuple #[.slice (some ⟨g, 0, none⟩) n n, .bool true]) ∧ Blk w' g 2 (rowA .i64 n (shareN t.toNat l)))
def ShR5 (W : World) (n : Nat) (rv : Nat → Nat) (at_ i : Value) (wr : World) : Prop := ∃ k : Nat, k ≤ n ∧ i = .int .i64 k ∧ at_ = .int .i64 (amax rv k : Nat) ∧ Ext W wr
theorem post_bad {w w' : World} {t : Int} {l : List Int} {n : Nat} {e : Ending} (hx : Ext w w') (h : ¬ shOk t l) (he : e = BAD) : SharePost w t l n e w' := ⟨hx, fun _ => he, fun k => absurd k h⟩
set_option maxRecDepth 100000 in
set_option maxHeartbeats 4000000 in
theorem share_any (t : Int) (A : Option Addr) (n c : Nat) (l : List Int) (w : World) (ht0 : -9223372036854775808 ≤ t) (ht1 : t ≤ 9223372036854775807) (hr : Rd w A n (ints l)) (hl : I64 l) (hb : n ≤ maxLen) :
    Calls Tryz.prog 18 #[.int .i64 t, .slice A n c] w fun e w' => SharePost w t l n e w' := by
  unfold maxLen at hb
  have hlen : l.length = n := by have := hr.1; simpa [ints] using this
  by_cases hneg : t < 0
  · have Hno := Lib.hid (show ¬ shOk t l from fun h => absurd h.1 (by omega))
    have d1 : decide (t < 0) = true := by simpa using hneg
    clear hlen
    go_enter Tryz.func18, Tryz.ntmps18
    go_wp2_with fail
    go_ret2
    exact post_bad (by repeat (first | with_reducible exact Below.refl _ _ | with_reducible assumption | with_reducible refine ExtD ?_ | with_reducible refine ExtDN ?_ | with_reducible refine ExtA ?_ | (with_reducible refine ExtR ?_ ?_; (first | omega | (dsimp only; omega) | (simp; done) | (simp; omega))) | (with_reducible refine ExtS ?_ ?_; (first | omega | (dsimp only; omega) | (simp; done) | (simp; omega))) | with_reducible refine Ext.tr ?_ (by with_reducible assumption))) Hno.out rfl
  by_cases hn : 64 < n
  · have Hno := Lib.hid (show ¬ shOk t l from fun h => absurd h.2.1 (by omega))
    have d1 : decide (t < 0) = false := by simpa using hneg
    have d2 : decide ((64 : Int) < (n : Int)) = true := by simp; omega
    clear hlen
    go_enter Tryz.func18, Tryz.ntmps18
    go_wp2_with fail
    go_ret2
    exact post_bad (by repeat (first | with_reducible exact Below.refl _ _ | with_reducible assumption | with_reducible refine ExtD ?_ | with_reducible refine ExtDN ?_ | with_reducible refine ExtA ?_ | (with_reducible refine ExtR ?_ ?_; (first | omega | (dsimp only; omega) | (simp; done) | (simp; omega))) | (with_reducible refine ExtS ?_ ?_; (first | omega | (dsimp only; omega) | (simp; done) | (simp; omega))) | with_reducible refine Ext.tr ?_ (by with_reducible assumption))) Hno.out rfl
  have d1 : decide (t < 0) = false := by simpa using hneg
  have d2 : decide ((64 : Int) < (n : Int)) = false := by simp; omega
  have Hlen := Lib.hid hlen
  have Hn := Lib.hid hn
  clear hlen hn
  go_enter Tryz.func18, Tryz.ntmps18
  go_wp2_with fail
  go_loopw [30] (fun i wr => ShR1 w n l i wr) (fun i _ => n - (intOf i).toNat)
  case atStart => exact ⟨0, by omega, rfl, fun j h => by omega, rfl⟩
  case round =>
    obtain ⟨k, hk, rfl, hnn, rfl⟩ := hrel
    have Hnn := Lib.hid hnn
    clear hnn
    by_cases hlt : k < n
    · obtain ⟨b, o, rfl, hc1⟩ := at_ints hr hlt
      obtain ⟨x, hx1⟩ : ∃ x, x = l.getD k 0 := ⟨_, rfl⟩
      rw [← hx1] at hc1
      have HX := Lib.hid hx1
      clear hx1
      by_cases hxn : x < 0
      · have d3 : decide (x < 0) = true := by simpa using hxn
        have Hno := Lib.hid (show ¬ shOk t l from fun h => by
          have h2 := h.2.2.1 (l[k]'(by have := Hlen.out; omega)) (List.getElem_mem _)
          have h3 := HX.out
          rw [List.getD_eq_getElem?_getD, List.getElem?_eq_getElem (by have := Hlen.out; omega)] at h3
          simp at h3
          omega)
        go_wp2_with fail
        go_ret2
        exact post_bad (by repeat (first | with_reducible exact Below.refl _ _ | with_reducible assumption | with_reducible refine ExtD ?_ | with_reducible refine ExtDN ?_ | with_reducible refine ExtA ?_ | (with_reducible refine ExtR ?_ ?_; (first | omega | (dsimp only; omega) | (simp; done) | (simp; omega))) | (with_reducible refine ExtS ?_ ?_; (first | omega | (dsimp only; omega) | (simp; done) | (simp; omega))) | with_reducible refine Ext.tr ?_ (by with_reducible assumption))) Hno.out rfl
      · have d3 : decide (x < 0) = false := by simpa using hxn
        go_wp2_with fail
        go_roundw
        case rel => exact ⟨k + 1, by omega, by go_num, fun j hj => by
          by_cases h : j = k
          · subst h; have := HX.out; rw [List.getD_eq_getElem?_getD] at this; omega
          · exact Hnn.out j (by omega), rfl⟩
        case measure => simp [intOf]; omega
    · have hkn : k = n := by omega
      subst hkn
      have hall : NonNeg l := fun v hv => by
        obtain ⟨j, hj, rfl⟩ := List.mem_iff_getElem.1 hv
        have := Hnn.out j (by have := Hlen.out; omega)
        rw [List.getElem?_eq_getElem hj] at this
        simpa using this
      have Hall := Lib.hid hall
      clear hall hlt
      by_cases hsf : sumFits l = true
      · by_cases hs0 : sumOf l = 0
        · have Hno := Lib.hid (show ¬ shOk t l from fun h => h.2.2.2.2 hs0)
          go_wp2_with (go_at_call 39; go_must (with_reducible refine (sum_any A k c l _ hr hl (by simp only [maxLen]; omega)).mono ?_); rintro e w1 ⟨rfl, hx1⟩)
          go_ret2
          exact post_bad (by repeat (first | with_reducible exact Below.refl _ _ | with_reducible assumption | with_reducible refine ExtD ?_ | with_reducible refine ExtDN ?_ | with_reducible refine ExtA ?_ | (with_reducible refine ExtR ?_ ?_; (first | omega | (dsimp only; omega) | (simp; done) | (simp; omega))) | (with_reducible refine ExtS ?_ ?_; (first | omega | (dsimp only; omega) | (simp; done) | (simp; omega))) | with_reducible refine Ext.tr ?_ (by with_reducible assumption))) Hno.out rfl
        · have Hok : Hid (shOk t l) := Lib.hid ⟨by omega, by have := Hlen.out; have := Hn.out; omega, Hall.out, hsf, hs0⟩
          obtain ⟨T, HT⟩ : ∃ T : Nat, Hid (t = (T : Int)) := ⟨t.toNat, Lib.hid (by have := Hok.out.1; omega)⟩
          obtain ⟨hs1, hs2, hs3⟩ := ok_sum t l hl Hok.out
          obtain ⟨S, HS⟩ : ∃ S : Nat, Hid (S = shS l) := ⟨_, rfl⟩
          rw [← HS.out] at hs1 hs2 hs3
          have HS2 := Lib.hid hs2
          have hT : T < 9223372036854775808 := by have := HT.out; omega
          have hk64 : k ≤ 64 := by have := Hn.out; omega
          have m1 := fun W : World => made_el 46 2 .i64 Tryz.underlying46 el_i64 k hk64 W
          have m2 := fun W : World => made_el 77 61 .u64 Tryz.underlying77 el_u64 k hk64 W
          have tz : ((S : Int) == 0) = false := by simp; omega
          have hsum : Calls Tryz.prog 39 #[.slice A k c] w fun e w' => e = .returned (.tuple #[.int .i64 (S : Int), .bool true]) ∧ Ext w w' := by
            have := sum_any A k c l w hr hl (by simp only [maxLen]; omega)
            rw [hs1, hsf] at this
            exact this
          have Hsum := Lib.hid hsum
          have WT : IntKind.u64.wrap (T : Int) = (T : Int) := by rw [IntKind.wrap_u64]; omega
          have WS : IntKind.u64.wrap (S : Int) = (S : Int) := by rw [IntKind.wrap_u64]; omega
          have Hr := Lib.hid hr
          have e0 : t = (T : Int) := HT.out
          subst e0
          clear hs1 hs0 hsum hneg d1 d2 hsf
          go_wp2_with (go_at_call 39; go_must (with_reducible refine (Hsum.out).mono ?_); rintro e w1 ⟨rfl, hx1⟩)
          have q1 := hx1.size
          go_loopw [12, 57] (fun left i wr' => ShR2 w w1.heap.size k T l left i wr') (fun _ i _ => k - (intOf i).toNat)
          case atStart => exact ⟨0, by omega, rfl, by simp [shL, sumF], (by repeat (first | with_reducible exact Below.refl _ _ | with_reducible assumption | with_reducible refine ExtD ?_ | with_reducible refine ExtDN ?_ | with_reducible refine ExtA ?_ | (with_reducible refine ExtR ?_ ?_; (first | omega | (dsimp only; omega) | (simp; done) | (simp; omega))) | (with_reducible refine ExtS ?_ ?_; (first | omega | (dsimp only; omega) | (simp; done) | (simp; omega))) | with_reducible refine Ext.tr ?_ (by with_reducible assumption))), by rw [part_zero]; exact (by repeat (first | with_reducible assumption | (with_reducible refine BlkN ?_; (first | rfl | (first | omega | (dsimp only; omega) | (simp; done) | (simp; omega)))) | with_reducible refine BlkD ?_ | with_reducible refine BlkDN ?_ | with_reducible refine BlkA ?_ | with_reducible refine BlkE ?_ (by with_reducible assumption) | with_reducible refine BlkS ?_ | (with_reducible refine BlkF ?_ ?_; (first | omega | (dsimp only; omega) | (simp; done) | (simp; omega))) | (with_reducible refine BlkR ?_ ?_; (first | omega | (dsimp only; omega) | (simp; done) | (simp; omega))))), by rw [part_zero]; exact (by repeat (first | with_reducible assumption | (with_reducible refine BlkN ?_; (first | rfl | (first | omega | (dsimp only; omega) | (simp; done) | (simp; omega)))) | with_reducible refine BlkD ?_ | with_reducible refine BlkDN ?_ | with_reducible refine BlkA ?_ | with_reducible refine BlkE ?_ (by with_reducible assumption) | with_reducible refine BlkS ?_ | (with_reducible refine BlkF ?_ ?_; (first | omega | (dsimp only; omega) | (simp; done) | (simp; omega))) | (with_reducible refine BlkR ?_ ?_; (first | omega | (dsimp only; omega) | (simp; done) | (simp; omega)))))⟩
          case round =>
            obtain ⟨j, hj, rfl, rfl, hx, b1, b2⟩ := hrel
            by_cases hlt : j < k
            · obtain ⟨b, o, rfl, hc1⟩ := at_ints (Hr.out.ext hx) hlt
              obtain ⟨x, Hx⟩ : ∃ x : Nat, Hid (x = wt l j) := ⟨_, rfl⟩
              have hxe : l.getD j 0 = (x : Int) := by
                have h1 := Hnn.out j hlt
                rw [Hx.out]; unfold wt; rw [List.getD_eq_getElem?_getD]; omega
              rw [hxe] at hc1
              have hx63 : x < 9223372036854775808 := by rw [Hx.out]; exact wt_lt l j hl
              have hxS : x ≤ S := by rw [Hx.out, HS.out]; exact wt_le l j (by have := Hlen.out; omega)
              have WX : IntKind.u64.wrap (x : Int) = (x : Int) := by rw [IntKind.wrap_u64]; omega
              clear hxe
              have M64 : ∀ w : World, Calls Tryz.prog 40 #[.int .u64 (T : Nat), .int .u64 (x : Nat)] w fun e w' => e = .returned (.tuple #[.int .u64 ((T * x / 18446744073709551616 : Nat) : Int), .int .u64 ((T * x % 18446744073709551616 : Nat) : Int)]) ∧ w' = w :=
                fun w => Tryz.bits_Mul64 T x (by omega) (by omega) w
              obtain ⟨p, Hp⟩ : ∃ p, Hid (p = T * x) := ⟨_, rfl⟩
              obtain ⟨hi, Hhi⟩ : ∃ hi, Hid (hi = p / 18446744073709551616) := ⟨_, rfl⟩
              obtain ⟨lo, Hlo⟩ : ∃ lo, Hid (lo = p % 18446744073709551616) := ⟨_, rfl⟩
              have hpS : p ≤ 9223372036854775807 * S := by rw [Hp.out]; exact Nat.mul_le_mul (by omega) hxS
              have hlo : lo < 18446744073709551616 := by rw [Hlo.out]; omega
              have hpe : hi * 18446744073709551616 + lo = p := by have := Hhi.out; have := Hlo.out; omega
              rw [← Hp.out, ← Hhi.out, ← Hlo.out] at M64
              have hhi : hi < S := by omega
              have D64 : ∀ w : World, Calls Tryz.prog 41 #[.int .u64 (hi : Int), .int .u64 (lo : Int), .int .u64 (S : Int)] w fun e w' => e = .returned (.tuple #[.int .u64 ((p / S : Nat) : Int), .int .u64 ((p % S : Nat) : Int)]) ∧ Ext w w' := fun w => by
                rw [← hpe]; exact div64_any hi lo S w hhi (by omega) hlo
              obtain ⟨q, Hq⟩ : ∃ q, Hid (q = p / S) := ⟨_, rfl⟩
              obtain ⟨r, Hr2⟩ : ∃ r, Hid (r = p % S) := ⟨_, rfl⟩
              rw [← Hq.out, ← Hr2.out] at D64
              have hqT : q ≤ T := by rw [Hq.out, Hp.out, Hx.out, HS.out]; exact shQ_le T l j (by have := Hlen.out; omega)
              have HM := Lib.hid M64
              have HD := Lib.hid D64
              have hqe : q = shQ T l j := by rw [Hq.out, Hp.out, Hx.out, HS.out]; rfl
              have hre : r = shR T l j := by rw [Hr2.out, Hp.out, Hx.out, HS.out]; rfl
              have Hqe := Lib.hid hqe
              have Hre := Lib.hid hre
              obtain ⟨L, HL⟩ : ∃ L, Hid (L = shL T l j) := ⟨_, rfl⟩
              have hLT : L ≤ T := by rw [HL.out]; unfold shL; omega
              have hqL : q ≤ L := by rw [HL.out, hqe]; exact shL_ge T l j (by have := Hlen.out; omega) (by rw [← HS.out]; exact HS2.out)
              rw [← HL.out]
              have WQ : IntKind.i64.wrap (q : Int) = (q : Int) := by rw [IntKind.wrap_i64]; omega
              have WL : wrap64 ((L : Int) - (q : Int)) = ((L - q : Nat) : Int) := by unfold wrap64; omega
              have c1 := (b1.cell j).trans (rowA_get .i64 k _ j hlt)
              have f1 := b1.frozen j
              have c2 := (b2.cell j).trans (rowA_get .u64 k _ j hlt)
              have f2 := b2.frozen j
              clear M64 D64 hqe hre hpe hpS hlo
              go_wp2_with (first
                | (go_at_call 40; go_must (with_reducible refine (HM.out _).mono ?_); rintro e w3 ⟨rfl, rfl⟩)
                | (go_at_call 41; go_must (with_reducible refine (HD.out _).mono ?_); rintro e w4 ⟨rfl, hx4⟩; have c1 := hx4.cell c1; have c2 := hx4.cell c2; have f1 := (hx4.blk b1).frozen j; have f2 := (hx4.blk b2).frozen j))
              have hx5 := hx4.blk b1
              have hx6 := hx4.blk b2
              go_roundw
              case rel =>
                refine ⟨j + 1, by omega, by go_num, by rw [show (L : Int) - (q : Int) = ((shL T l (j + 1) : Nat) : Int) by have h1 := shL_step T l j; rw [← HL.out, ← Hqe.out] at h1; omega], (by repeat (first | with_reducible exact Below.refl _ _ | with_reducible assumption | with_reducible refine ExtD ?_ | with_reducible refine ExtDN ?_ | with_reducible refine ExtA ?_ | (with_reducible refine ExtR ?_ ?_; (first | omega | (dsimp only; omega) | (simp; done) | (simp; omega))) | (with_reducible refine ExtS ?_ ?_; (first | omega | (dsimp only; omega) | (simp; done) | (simp; omega))) | with_reducible refine Ext.tr ?_ (by with_reducible assumption))), ?_, ?_⟩
                · have h := BlkF (p := ⟨w1.heap.size + 1, j, none⟩) (u := .int .u64 (r : Int)) (by dsimp only; omega) (BlkS (i := j) (u := .int .i64 (q : Int)) hx5)
                  rw [rowA_set _ _ _ _ _ hlt, Hqe.out, part_step] at h
                  rw [Hqe.out]
                  exact h
                · have h := BlkS (i := j) (u := .int .u64 (r : Int)) (BlkF (p := ⟨w1.heap.size, j, none⟩) (u := .int .i64 (q : Int)) (by dsimp only; omega) hx6)
                  rw [rowA_set _ _ _ _ _ hlt, Hre.out, part_step] at h
                  rw [Hre.out]
                  exact h
              case measure => simp [intOf]; omega
            · have hkn : k = j := by omega
              subst hkn
              rw [part_all] at b1 b2
              have hSl : 0 < shS l := by rw [← HS.out]; exact HS2.out
              have HSl := Lib.hid hSl
              have hln := Hlen.out
              clear hlt
              go_wp2_with fail
              go_loopw [12] (fun left wr' => ShR3 w w1.heap.size k T l left wr') (fun left _ => (intOf left).toNat)
              case atStart =>
                refine ⟨0, by omega, by simp, (by repeat (first | with_reducible exact Below.refl _ _ | with_reducible assumption | with_reducible refine ExtD ?_ | with_reducible refine ExtDN ?_ | with_reducible refine ExtA ?_ | (with_reducible refine ExtR ?_ ?_; (first | omega | (dsimp only; omega) | (simp; done) | (simp; omega))) | (with_reducible refine ExtS ?_ ?_; (first | omega | (dsimp only; omega) | (simp; done) | (simp; omega))) | with_reducible refine Ext.tr ?_ (by with_reducible assumption))), ?_, ?_⟩
                · rw [rowA_congr .i64 k _ (shQ T l) fun i _ => by simp [shC, giveC]]; exact (by repeat (first | with_reducible assumption | (with_reducible refine BlkN ?_; (first | rfl | (first | omega | (dsimp only; omega) | (simp; done) | (simp; omega)))) | with_reducible refine BlkD ?_ | with_reducible refine BlkDN ?_ | with_reducible refine BlkA ?_ | with_reducible refine BlkE ?_ (by with_reducible assumption) | with_reducible refine BlkS ?_ | (with_reducible refine BlkF ?_ ?_; (first | omega | (dsimp only; omega) | (simp; done) | (simp; omega))) | (with_reducible refine BlkR ?_ ?_; (first | omega | (dsimp only; omega) | (simp; done) | (simp; omega)))))
                · rw [rowA_congr .u64 k _ (shR T l) fun i _ => by simp [shC, giveC, rz]]; exact (by repeat (first | with_reducible assumption | (with_reducible refine BlkN ?_; (first | rfl | (first | omega | (dsimp only; omega) | (simp; done) | (simp; omega)))) | with_reducible refine BlkD ?_ | with_reducible refine BlkDN ?_ | with_reducible refine BlkA ?_ | with_reducible refine BlkE ?_ (by with_reducible assumption) | with_reducible refine BlkS ?_ | (with_reducible refine BlkF ?_ ?_; (first | omega | (dsimp only; omega) | (simp; done) | (simp; omega))) | (with_reducible refine BlkR ?_ ?_; (first | omega | (dsimp only; omega) | (simp; done) | (simp; omega)))))
              case round =>
                obtain ⟨m, hm, rfl, hx2, c1, c2⟩ := hrel
                by_cases hml : m < shL T l k
                · obtain ⟨i1, i2, i3, i4⟩ := sh_inv T l HSl.out m (by rw [hln]; exact hm)
                  obtain ⟨i5, i6⟩ := i4 (by rw [hln]; exact hml)
                  rw [hln] at i5 i6
                  obtain ⟨rv, Hrv⟩ : ∃ rv, Hid (rv = rz (shR T l) (shC T l m)) := ⟨_, rfl⟩
                  rw [← Hrv.out] at i5 c2
                  have hat := amax_lt rv k i6
                  have hqb : shQ T l (amax rv k) + 1 ≤ T := by
                    have h1 : shQ T l (amax rv k) ≤ sumF (shQ T l) k := sumF_one_le hat
                    unfold shL at hml
                    omega
                  obtain ⟨D, HD⟩ : ∃ D : Nat, Hid (D = shL T l k - m) := ⟨_, rfl⟩
                  have hD1 : ((shL T l k : Nat) : Int) - (m : Int) = (D : Int) := by rw [HD.out]; omega
                  have hDT : D ≤ T := by rw [HD.out]; unfold shL; omega
                  have hD0 : 0 < D := by rw [HD.out]; omega
                  rw [hD1]
                  have tm : decide ((0 : Int) < (D : Int)) = true := by simp; omega
                  have Hi5 := Lib.hid i5
                  clear i1 i2 i3 i4 i5
                  go_wp2_with fail
                  go_loopw [19, 100] (fun at_ i wr' => ShR5 wr k rv at_ i wr') (fun _ i _ => k - (intOf i).toNat)
                  case atStart => exact ⟨0, by omega, rfl, rfl, (by repeat (first | with_reducible exact Below.refl _ _ | with_reducible assumption | with_reducible refine ExtD ?_ | with_reducible refine ExtDN ?_ | with_reducible refine ExtA ?_ | (with_reducible refine ExtR ?_ ?_; (first | omega | (dsimp only; omega) | (simp; done) | (simp; omega))) | (with_reducible refine ExtS ?_ ?_; (first | omega | (dsimp only; omega) | (simp; done) | (simp; omega))) | with_reducible refine Ext.tr ?_ (by with_reducible assumption)))⟩
                  case round =>
                    obtain ⟨i, hi, rfl, rfl, hx3⟩ := hrel
                    have hai := amax_le rv i
                    by_cases hik : i < k
                    · obtain ⟨a, Ha⟩ : ∃ a, Hid (a = amax rv i) := ⟨_, rfl⟩
                      rw [← Ha.out] at hai
                      rw [← Ha.out]
                      have e1 := ((hx3.blk c2).cell i).trans (rowA_get .u64 k rv i hik)
                      have e2 := ((hx3.blk c2).cell a).trans (rowA_get .u64 k rv a (by omega))
                      obtain ⟨x, Hx⟩ : ∃ x, Hid (x = rv i) := ⟨_, rfl⟩
                      obtain ⟨y, Hy⟩ : ∃ y, Hid (y = rv a) := ⟨_, rfl⟩
                      rw [← Hx.out] at e1
                      rw [← Hy.out] at e2
                      by_cases hxy : y < x
                      · have tq : decide (y < x) = true := by simpa using hxy
                        have hnext : amax rv (i + 1) = i := by unfold amax; rw [← Ha.out, ← Hx.out, ← Hy.out, if_pos hxy]
                        have Hnext := Lib.hid hnext
                        clear hnext hxy
                        go_wp2_with fail
                        go_quiet (fail)
                        go_wp2_with fail
                        go_roundw
                        case rel => exact ⟨i + 1, by omega, by go_num, by rw [Hnext.out], (by repeat (first | with_reducible exact Below.refl _ _ | with_reducible assumption | with_reducible refine ExtD ?_ | with_reducible refine ExtDN ?_ | with_reducible refine ExtA ?_ | (with_reducible refine ExtR ?_ ?_; (first | omega | (dsimp only; omega) | (simp; done) | (simp; omega))) | (with_reducible refine ExtS ?_ ?_; (first | omega | (dsimp only; omega) | (simp; done) | (simp; omega))) | with_reducible refine Ext.tr ?_ (by with_reducible assumption)))⟩
                        case measure => simp [intOf]; omega
                      · have tq : decide (y < x) = false := by simpa using hxy
                        have hnext : amax rv (i + 1) = a := by unfold amax; rw [← Ha.out, ← Hx.out, ← Hy.out, if_neg hxy]
                        have Hnext := Lib.hid hnext
                        clear hnext hxy
                        go_wp2_with fail
                        go_quiet (fail)
                        go_wp2_with fail
                        go_roundw
                        case rel => exact ⟨i + 1, by omega, by go_num, by rw [Hnext.out], (by repeat (first | with_reducible exact Below.refl _ _ | with_reducible assumption | with_reducible refine ExtD ?_ | with_reducible refine ExtDN ?_ | with_reducible refine ExtA ?_ | (with_reducible refine ExtR ?_ ?_; (first | omega | (dsimp only; omega) | (simp; done) | (simp; omega))) | (with_reducible refine ExtS ?_ ?_; (first | omega | (dsimp only; omega) | (simp; done) | (simp; omega))) | with_reducible refine Ext.tr ?_ (by with_reducible assumption)))⟩
                        case measure => simp [intOf]; omega
                    · have hie : i = k := by omega
                      subst hie
                      obtain ⟨a, Ha⟩ : ∃ a, Hid (a = amax rv i) := ⟨_, rfl⟩
                      rw [← Ha.out] at hat hqb Hi5
                      rw [← Ha.out]
                      have C1 := hx3.blk c1
                      have C2 := hx3.blk c2
                      have e1 := (C1.cell a).trans (rowA_get .i64 i _ a hat)
                      have e2 := (C2.cell a).trans (rowA_get .u64 i rv a hat)
                      have f1 := C1.frozen a
                      have f2 := C2.frozen a
                      obtain ⟨v, Hv⟩ : ∃ v, Hid (v = shQ T l a + (shC T l m a).toNat) := ⟨_, rfl⟩
                      rw [← Hv.out] at e1
                      have hv : v = shQ T l a := by rw [Hv.out, Hi5.out]; rfl
                      have WV : wrap64 ((v : Int) + 1) = (v : Int) + 1 := by unfold wrap64; omega
                      have WD : wrap64 ((D : Int) - 1) = (D : Int) - 1 := by unfold wrap64; omega
                      have Hv2 := Lib.hid hv
                      clear hv
                      go_wp2_with fail
                      go_roundw
                      case rel =>
                        refine ⟨m + 1, by omega, by rw [show (D : Int) - 1 = (shL T l i : Nat) - ((m + 1 : Nat) : Int) by omega], (by repeat (first | with_reducible exact Below.refl _ _ | with_reducible assumption | with_reducible refine ExtD ?_ | with_reducible refine ExtDN ?_ | with_reducible refine ExtA ?_ | (with_reducible refine ExtR ?_ ?_; (first | omega | (dsimp only; omega) | (simp; done) | (simp; omega))) | (with_reducible refine ExtS ?_ ?_; (first | omega | (dsimp only; omega) | (simp; done) | (simp; omega))) | with_reducible refine Ext.tr ?_ (by with_reducible assumption))), ?_, ?_⟩
                        · have h := BlkF (p := ⟨w1.heap.size + 1, a, none⟩) (u := .int .u64 0) (by dsimp only; omega) (BlkS (i := a) (u := .int .i64 ((v + 1 : Nat) : Int)) C1)
                          rw [rowA_set _ _ _ _ _ hat] at h
                          have hu := upd_q (shQ T l) (shR T l) l.length m
                          rw [hln, show giveC (shR T l) i m = shC T l m by unfold shC; rw [hln], ← Hrv.out, ← Ha.out] at hu
                          have hu2 := hu Hi5.out
                          rw [← Hv.out] at hu2
                          rw [show (fun i_1 => shQ T l i_1 + (shC T l (m + 1) i_1).toNat) = fun j => shQ T l j + (giveC (shR T l) i (m + 1) j).toNat by unfold shC; rw [hln], ← hu2]
                          exact h
                        · have h := BlkS (i := a) (u := .int .u64 ((0 : Nat) : Int)) (BlkF (p := ⟨w1.heap.size, a, none⟩) (u := .int .i64 ((v + 1 : Nat) : Int)) (by dsimp only; omega) C2)
                          rw [rowA_set _ _ _ _ _ hat] at h
                          have hu := upd_r (shR T l) l.length m
                          rw [hln, show giveC (shR T l) i m = shC T l m by unfold shC; rw [hln], ← Hrv.out, ← Ha.out] at hu
                          rw [show shC T l (m + 1) = giveC (shR T l) i (m + 1) by unfold shC; rw [hln], ← hu]
                          exact h
                      case measure => simp [intOf]; omega

                · have hme : m = shL T l k := by omega
                  subst hme
                  have tm : decide ((0 : Int) < ((shL T l k : Nat) : Int) - ((shL T l k : Nat) : Int)) = false := by simp
                  go_wp2_with fail
                  go_ret2
                  refine ⟨(by repeat (first | with_reducible exact Below.refl _ _ | with_reducible assumption | with_reducible refine ExtD ?_ | with_reducible refine ExtDN ?_ | with_reducible refine ExtA ?_ | (with_reducible refine ExtR ?_ ?_; (first | omega | (dsimp only; omega) | (simp; done) | (simp; omega))) | (with_reducible refine ExtS ?_ ?_; (first | omega | (dsimp only; omega) | (simp; done) | (simp; omega))) | with_reducible refine Ext.tr ?_ (by with_reducible assumption))), fun h => absurd Hok.out h, fun _ => ⟨w1.heap.size, by omega, rfl, ?_⟩⟩
                  have h : (fun i => shQ T l i + (shC T l (shL T l k) i).toNat) = shareN (Int.toNat (T : Int)) l := by funext i; simp [shareN, hln]
                  rw [← h]
                  exact c1
      · have hsf' : sumFits l = false := by simpa using hsf
        have Hno := Lib.hid (show ¬ shOk t l from fun h => hsf h.2.2.2.1)
        clear hsf
        go_wp2_with (go_at_call 39; go_must (with_reducible refine (sum_any A k c l _ hr hl (by simp only [maxLen]; omega)).mono ?_); rintro e w1 ⟨rfl, hx1⟩)
        go_ret2
        exact post_bad (by repeat (first | with_reducible exact Below.refl _ _ | with_reducible assumption | with_reducible refine ExtD ?_ | with_reducible refine ExtDN ?_ | with_reducible refine ExtA ?_ | (with_reducible refine ExtR ?_ ?_; (first | omega | (dsimp only; omega) | (simp; done) | (simp; omega))) | (with_reducible refine ExtS ?_ ?_; (first | omega | (dsimp only; omega) | (simp; done) | (simp; omega))) | with_reducible refine Ext.tr ?_ (by with_reducible assumption))) Hno.out rfl
end Go.Proofs.YtjomgppbialeoaaGreat
