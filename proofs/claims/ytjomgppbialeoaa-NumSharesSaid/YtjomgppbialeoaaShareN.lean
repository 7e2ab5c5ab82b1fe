/-
  The walk of the law NumShares: every Share, against the reference; new memory.
-/
import Derived.Test.YtjomgppbialeoaaShareH
import Derived.Test.YtjomgppbialeoaaShareX
namespace Go.Proofs.Ytjomgppbialeoaa
open Go.RowKit
set_option linter.unusedVariables false
set_option linter.unusedSimpArgs false
theorem refshare_ok (t : Int) (A : Option Addr) (n c : Nat) (l : List Int) (w : World) (ht0 : -9223372036854775808 ≤ t) (ht1 : t ≤ 9223372036854775807) (hr : Rd w A n (ints l)) (hl : I64 l) (hb : n ≤ maxLen) (h : shOk t l) :
    Calls Try.prog 5 #[.int .i64 t, .slice A n c] w fun e w' => ∃ A c, e = .returned (.tuple #[.slice A n c, .bool true]) ∧ Ext w w' ∧ w'.ownsRow w.heap.size 2 1 (.slice A n c) n (ints (shList t.toNat l)) :=
  (refshare_any t A n c l w ht0 ht1 hr hl hb).mono fun e w' ⟨hx, _, h2⟩ => by
    obtain ⟨A, c, h3, h4⟩ := h2 h
    exact ⟨A, c, h3, hx, h4⟩
theorem refshare_no (t : Int) (A : Option Addr) (n c : Nat) (l : List Int) (w : World) (ht0 : -9223372036854775808 ≤ t) (ht1 : t ≤ 9223372036854775807) (hr : Rd w A n (ints l)) (hl : I64 l) (hb : n ≤ maxLen) (h : ¬ shOk t l) :
    Calls Try.prog 5 #[.int .i64 t, .slice A n c] w fun e w' => e = .returned (.tuple #[.slice none 0 0, .bool false]) ∧ Ext w w' :=
  (refshare_any t A n c l w ht0 ht1 hr hl hb).mono fun e w' ⟨hx, h1, _⟩ => ⟨h1 h, hx⟩
theorem own_formI {w : World} {base n c : Nat} {A : Option Addr} {l : List Int} (h : w.ownsRow base 2 1 (.slice A n c) n (ints l)) (h0 : 0 < n) : ∃ g cur, A = some ⟨g, 0, none⟩ ∧ base ≤ g ∧ Blk w g 2 cur ∧ n ≤ cur.size := by
  have hl := h.1
  rcases h.2 with ⟨h1, h2⟩ | ⟨g, cap, cur, h1, h2, h3, h4, h5, h6, h7⟩
  · omega
  · injection h1 with h8 h9 h10
    exact ⟨g, cur, h8, h2, h3, by rw [h6]; omega⟩
/-- A row that is written over: each cell is some int64; blocks but its own stay. -/
def WrR (W : World) (g n : Nat) (c54 : Value) (wr : World) : Prop :=
  ∃ (k : Nat) (cs : Array Value), c54 = .int .i64 (k : Nat) ∧ k ≤ n ∧ Blk wr g 2 cs ∧ n ≤ cs.size ∧ W.grownBy wr (some g)
theorem wr_step {W wr : World} {g k : Nat} {cs : Array Value} {u : Value} (hb : Blk wr g 2 cs) (hg : W.grownBy wr (some g)) : W.grownBy (wr.setCell ⟨g, k, none⟩ u) (some g) := grown_set hg u
set_option maxRecDepth 100000 in
set_option maxHeartbeats 4000000 in
theorem numShares_walk (t : Int) (A : Option Addr) (n c : Nat) (l : List Int) (w : World) (ht0 : -9223372036854775808 ≤ t) (ht1 : t ≤ 9223372036854775807) (hr : Rd w A n (ints l)) (hl : I64 l) (hb : n * 8 ≤ 140737488351232) :
    Calls Try.prog 3 #[.int .i64 t, .slice A n c] w fun e w' => e = .returned (.bool true) ∧ Ext w w' := by
  have hn : n ≤ maxLen := by simp only [maxLen]; omega
  have hn8 : n * 8 ≤ 140737488355328 := by omega
  have hlen : l.length = n := by have := hr.1; simpa [ints] using this
  have Hlen := Lib.hid hlen
  have Hr := Lib.hid hr
  by_cases hok : shOk t l
  · have Hok := Lib.hid hok
    have hn64 : n ≤ 64 := by have := hok.2.1; omega
    have KR := Lib.hid fun W (h : Rd W A n (ints l)) => refshare_ok t A n c l W ht0 ht1 h hl hn hok
    have KS := Lib.hid fun A2 c2 W (h : Rd W A2 n (ints l)) => share_ok t A2 n c2 l W ht0 ht1 h hl hn hok
    have KE := Lib.hid fun A1 c1 A2 c2 W (h : Rd W A1 n (ints (shList t.toNat l))) (h2 : Rd W A2 n (ints (shList t.toNat l))) => same_any A1 A2 n c1 n c2 (shList t.toNat l) (shList t.toNat l) W h h2 hn
    have KL := Lib.hid fun A1 c1 A2 c2 W (h : Rd W A1 n (ints l)) (h2 : Rd W A2 n (ints l)) => same_any A1 A2 n c1 n c2 l l W h h2 hn
    rw [decide_eq_true rfl] at KE KL
    have HSL : Hid (∀ W g, Blk W g 2 (rowA .i64 n (shareN t.toNat l)) → Rd W (some ⟨g, 0, none⟩) n (ints (shList t.toNat l))) := Lib.hid fun W g h => rd_share hlen h
    have hrs : (rowA .i64 n (shareN t.toNat l)).size = n := rowA_size ..
    clear hlen hok hr
    generalize shList t.toNat l = sl at *
    generalize rowA .i64 n (shareN t.toNat l) = row at *
    go_enter Try.func3, Try.ntmps3
    go_upto_region 9 with (first
      | (go_at_call 4; (with_reducible refine (shares_any _).mono ?_); rintro e w1 ⟨rfl, hx1⟩; have R1 := Lib.hid (Hr.out.ext hx1))
      | (at_builtin; go_must (refine wpL_copy rfl (.tmp 16) (.tmp 17) _ rfl 2 _ 1 8 Try.underlying22 el_i64 A n c _ rfl rfl R1.out.toN (one_ints l) (by omega) hn ?_); intro A3 c3 w3 hx3 hown3; have hw3 : Ext w w3 := hx1.tr hx3; have R3 := Lib.hid (Rd.of_own hown3); have RA := Lib.hid (Hr.out.ext hw3))
      | (go_at_call 5; (with_reducible refine (KR.out _ RA.out).mono ?_); rintro e w4 ⟨A4, c4, rfl, hx4, ho4⟩; have R4 := Lib.hid (R3.out.ext hx4))
      | (go_at_call 6; (with_reducible refine (KS.out A3 c3 w4 R4.out).mono ?_); rintro e w5 ⟨g5, rfl, hx5, hg5, hb5⟩; have R5 := Lib.hid (R4.out.ext hx5))
      | (go_at_call 6; (with_reducible refine (KS.out A3 c3 w5 R5.out).mono ?_); rintro e w6 ⟨g6, rfl, hx6, hg6, hb6⟩; have R6 := Lib.hid (R5.out.ext hx6); have X4 := Lib.hid ((Rd.of_own ho4).ext (hx5.tr hx6)); have Y5 := Lib.hid (HSL.out _ _ (BlkE hb5 hx6)))
      | (go_at_call 7; (with_reducible refine (KE.out A4 c4 _ _ w6 X4.out Y5.out).mono ?_); rintro e w7 ⟨rfl, hx7⟩; have R7 := Lib.hid (R6.out.ext hx7); have RB := Lib.hid (RA.out.ext (((hx4.tr hx5).tr hx6).tr hx7)))
      | (go_at_call 7; (with_reducible refine (KL.out A3 c3 A c w7 R7.out RB.out).mono ?_); rintro e w8 ⟨rfl, hx8⟩))
    have hn0 : 0 < n := by
      rcases Nat.eq_zero_or_pos n with h | h
      · have := Hok.out.2.2.2.2
        have h2 := Hlen.out
        subst h
        have : l = [] := List.eq_nil_of_length_eq_zero h2
        subst this
        exact absurd (by decide +kernel : sumOf ([] : List Int) = 0) Hok.out.2.2.2.2
      · exact h
    obtain ⟨g3, cur3, rfl, hge3, hb3, hsz⟩ := own_formI hown3 hn0
    have hlt3 : g3 < w3.heap.size := hb3.lt
    have hge4 : w3.heap.size ≤ w4.heap.size := hx4.size
    have hlt5 : g5 < w5.heap.size := hb5.lt
    have hge1 : w.heap.size ≤ w1.heap.size := hx1.size
    have hge2 : w1.heap.size ≤ w3.heap.size := by have := hx3.size; omega
    have hx68 := hx7.tr hx8
    have B5 : Blk w8 g5 2 row := BlkE hb5 (hx6.tr hx68)
    have B6 := Lib.hid (BlkE hb6 hx68)
    have B3' : Blk w8 g3 2 cur3 := BlkE hb3 (((hx4.tr hx5).tr hx6).tr hx68)
    have O4 := Lib.hid (own_ext ((hx5.tr hx6).tr hx68) ho4)
    have l4 : ∀ r, (Value.slice A4 n c4).ownBlock = some r → w3.heap.size ≤ r ∧ r < w4.heap.size := fun r hr => ho4.lt r hr
    have HX8 := Lib.hid (show Ext w w8 from (((hw3.tr hx4).tr hx5).tr hx6).tr hx68)
    clear hb3 hx4 hx5 hb5 hx6 hb6 hx7 hx8 hx68 hown3 ho4 R3 RA R4 R5 R6 X4 Y5 R7 RB hx1 hx3 hw3 R1 KR KS KL Hok
    go_wp2_with fail
    go_loopw [12, 54] (fun _ c54 wr => WrR w8 g5 n c54 wr) (fun _ c54 _ => n - (intOf c54).toNat)
    case atStart => exact ⟨0, _, rfl, by omega, B5, by omega, World.grownBy.refl _ _⟩
    case round =>
      rename World => wy
      obtain ⟨k, cs, rfl, hk, hb, hsz2, hg⟩ := hrel
      by_cases hlt : k < n
      · have e0 : wy.cell? ⟨g5, k, none⟩ = some (cs[k]'(by omega)) := by rw [hb.cell]; exact Array.getElem?_eq_getElem (by omega)
        have f0 : wy.frozen? ⟨g5, k, none⟩ = false := hb.frozen k
        have Hb := Lib.hid hb
        have Hg := Lib.hid hg
        clear hb hg
        go_wp2_with fail
        go_roundw
        case rel => exact ⟨k + 1, _, by go_num, by omega, BlkS Hb.out, by simpa using hsz2, wr_step Hb.out Hg.out⟩
        case measure => simp [intOf]; omega
      · obtain rfl : n = k := by omega
        obtain ⟨wq, hwq⟩ : ∃ wq, wq = wy := ⟨_, rfl⟩
        have B3 := Lib.hid (show Blk wq g3 2 cur3 from hwq ▸ BlkG B3' hg (fun hc => by injection hc with hc; omega))
        have HG1 := Lib.hid (show w8.grownBy wq (some g5) from hwq ▸ hg)
        rw [← hwq]
        clear hb hg hwq
        go_wp2_with fail
        go_loopw [13, 63] (fun _ c63 wr => WrR wq g3 n c63 wr) (fun _ c63 _ => n - (intOf c63).toNat)
        case atStart => exact ⟨0, _, rfl, by omega, B3.out, hsz, World.grownBy.refl _ _⟩
        case round =>
          rename World => wz
          obtain ⟨k, cs, rfl, hk, hb, hsz2, hg⟩ := hrel
          by_cases hlt : k < n
          · have e0 : wz.cell? ⟨g3, k, none⟩ = some (cs[k]'(by omega)) := by rw [hb.cell]; exact Array.getElem?_eq_getElem (by omega)
            have f0 : wz.frozen? ⟨g3, k, none⟩ = false := hb.frozen k
            have Hb := Lib.hid hb
            have Hg := Lib.hid hg
            clear hb hg
            go_wp2_with fail
            go_roundw
            case rel => exact ⟨k + 1, _, by go_num, by omega, BlkS Hb.out, by simpa using hsz2, wr_step Hb.out Hg.out⟩
            case measure => simp [intOf]; omega
          · obtain rfl : n = k := by omega
            have X6 := Lib.hid (HSL.out _ _ (BlkG (BlkG B6.out HG1.out (fun hc => by injection hc with hc; omega)) hg (fun hc => by injection hc with hc; omega)))
            have X4 := Lib.hid (Rd.of_own (World.ownsRow.kept (World.ownsRow.kept O4.out HG1.out (.inr (fun hc => by have := l4 _ hc; omega))) hg (.inr (fun hc => by have := l4 _ hc; omega))))
            have HXz := Lib.hid (Ext.grown (Ext.grown HX8.out HG1.out (fun r hr => by injection hr with hr; omega)) hg (fun r hr => by injection hr with hr; omega))
            clear hb hg
            go_wp2_with (go_at_call 7; (with_reducible refine (KE.out _ _ A4 c4 _ X6.out X4.out).mono ?_); rintro e w9 ⟨rfl, hx9⟩)
            go_ret
            exact ⟨rfl, HXz.out.tr hx9⟩
  · have hlist : ∀ W, Rd W none 0 (ints []) := fun W => Rd.nil_ _ _
    have KR := Lib.hid fun W (h : Rd W A n (ints l)) => refshare_no t A n c l W ht0 ht1 h hl hn hok
    have KS := Lib.hid fun A2 c2 W (h : Rd W A2 n (ints l)) => share_no t A2 n c2 l W ht0 ht1 h hl hn hok
    have KE := Lib.hid fun W => same_any none none 0 0 0 0 [] [] W (Rd.nil_ _ _) (Rd.nil_ _ _) (by decide)
    have KL := Lib.hid fun A1 c1 A2 c2 W (h : Rd W A1 n (ints l)) (h2 : Rd W A2 n (ints l)) => same_any A1 A2 n c1 n c2 l l W h h2 hn
    rw [decide_eq_true rfl] at KE KL
    clear hlen hok hr hlist
    go_enter Try.func3, Try.ntmps3
    go_upto_region 9 with (first
      | (go_at_call 4; (with_reducible refine (shares_any _).mono ?_); rintro e w1 ⟨rfl, hx1⟩; have R1 := Lib.hid (Hr.out.ext hx1))
      | (at_builtin; go_must (refine wpL_copy rfl (.tmp 16) (.tmp 17) _ rfl 2 _ 1 8 Try.underlying22 el_i64 A n c _ rfl rfl R1.out.toN (one_ints l) (by omega) hn ?_); intro A3 c3 w3 hx3 hown3; have hw3 : Ext w w3 := hx1.tr hx3; have R3 := Lib.hid (Rd.of_own hown3); have RA := Lib.hid (Hr.out.ext hw3))
      | (go_at_call 5; (with_reducible refine (KR.out _ RA.out).mono ?_); rintro e w4 ⟨rfl, hx4⟩; have R4 := Lib.hid (R3.out.ext hx4))
      | (go_at_call 6; (with_reducible refine (KS.out A3 c3 w4 R4.out).mono ?_); rintro e w5 ⟨rfl, hx5⟩; have R5 := Lib.hid (R4.out.ext hx5))
      | (go_at_call 6; (with_reducible refine (KS.out A3 c3 w5 R5.out).mono ?_); rintro e w6 ⟨rfl, hx6⟩; have R6 := Lib.hid (R5.out.ext hx6))
      | (go_at_call 7; (with_reducible refine (KE.out w6).mono ?_); rintro e w7 ⟨rfl, hx7⟩; have R7 := Lib.hid (R6.out.ext hx7); have RB := Lib.hid (RA.out.ext (((hx4.tr hx5).tr hx6).tr hx7)))
      | (go_at_call 7; (with_reducible refine (KL.out A3 c3 A c w7 R7.out RB.out).mono ?_); rintro e w8 ⟨rfl, hx8⟩))
    have hge1 : w.heap.size ≤ w1.heap.size := hx1.size
    have hx38 := (((hx4.tr hx5).tr hx6).tr hx7).tr hx8
    have HX8 := Lib.hid (show Ext w w8 from hw3.tr hx38)
    have O3 := Lib.hid (own_ext hx38 hown3)
    clear hx4 hx5 hx6 hx7 hx8 hx38 hown3 R3 RA R4 R5 R6 R7 RB hx3 hw3 R1 KR KS KL hx1
    go_wp2_with fail
    go_loopw [12, 54] (fun _ c54 wr => wr = w8 ∧ c54 = .int .i64 0) (fun _ c54 _ => 0)
    case atStart => exact ⟨rfl, rfl⟩
    case round =>
      obtain ⟨rfl, rfl⟩ := hrel
      go_wp2_with fail
      by_cases h0 : n = 0
      · subst h0
        have HX := Lib.hid (show Ext w wr from HX8.out)
        clear O3
        go_loopw [13, 63] (fun _ c63 wz => c63 = .int .i64 0 ∧ Ext w wz) (fun _ c63 _ => 0)
        case atStart => exact ⟨rfl, HX.out⟩
        case round =>
          rename World => wz
          obtain ⟨rfl, hx⟩ := hrel
          go_wp2_with (go_at_call 7; (with_reducible refine (KE.out _).mono ?_); rintro e w9 ⟨rfl, hx9⟩)
          go_ret
          exact ⟨rfl, hx.tr hx9⟩
      · obtain ⟨g3, cur3, rfl, hge3, hb3, hsz⟩ := own_formI O3.out (by omega)
        have B3 := Lib.hid hb3
        clear hb3 O3
        go_loopw [13, 63] (fun _ c63 wz => WrR wr g3 n c63 wz) (fun _ c63 _ => n - (intOf c63).toNat)
        case atStart => exact ⟨0, _, rfl, by omega, B3.out, hsz, World.grownBy.refl _ _⟩
        case round =>
          rename World => wz
          obtain ⟨k, cs, rfl, hk, hb, hsz2, hg⟩ := hrel
          by_cases hlt : k < n
          · have e0 : wz.cell? ⟨g3, k, none⟩ = some (cs[k]'(by omega)) := by rw [hb.cell]; exact Array.getElem?_eq_getElem (by omega)
            have f0 : wz.frozen? ⟨g3, k, none⟩ = false := hb.frozen k
            have Hb := Lib.hid hb
            have Hg := Lib.hid hg
            clear hb hg
            go_wp2_with fail
            go_roundw
            case rel => exact ⟨k + 1, _, by go_num, by omega, BlkS Hb.out, by simpa using hsz2, wr_step Hb.out Hg.out⟩
            case measure => simp [intOf]; omega
          · obtain rfl : n = k := by omega
            have HXz := Lib.hid (Ext.grown HX8.out hg (fun r hr => by injection hr with hr; omega))
            clear hb hg
            go_wp2_with (go_at_call 7; (with_reducible refine (KE.out _).mono ?_); rintro e w9 ⟨rfl, hx9⟩)
            go_ret
            exact ⟨rfl, HXz.out.tr hx9⟩
end Go.Proofs.Ytjomgppbialeoaa
