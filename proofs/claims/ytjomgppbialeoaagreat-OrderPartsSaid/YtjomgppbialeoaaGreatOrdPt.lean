/-
  order.Parts and the reference's: the plain law (what is due can be shared out by worth), and the walks.
-/
import Derived.Test.YtjomgppbialeoaaGreatOrdRd
import Derived.Test.YtjomgppbialeoaaGreatOrdAa
import Derived.Test.YtjomgppbialeoaaGreatShareN
namespace Go.Proofs.YtjomgppbialeoaaGreat
open Go.RowKit
set_option linter.unusedVariables false
set_option linter.unusedSimpArgs false
def worths (ls : List Ln) : List Int := ls.map fun l => l.qty * l.price
theorem worths_len (ls : List Ln) : (worths ls).length = ls.length := by simp [worths]
theorem worths_sum (ls : List Ln) : (worths ls).sum = net ls := rfl
theorem worths_mem {ls : List Ln} (hl : ∀ l ∈ ls, lnB l = true) : ∀ v ∈ worths ls, 0 ≤ v ∧ v ≤ 10000000000000 := by
  intro v hv
  obtain ⟨l, hl', rfl⟩ := List.mem_map.1 hv
  exact prod_ok (hl l hl')
theorem worths_i64 {ls : List Ln} (hl : ∀ l ∈ ls, lnB l = true) : I64 (worths ls) := fun v hv => by have := worths_mem hl v hv; omega
theorem worths_take {ls : List Ln} {k : Nat} (hk : k < ls.length) : (worths ls).take (k + 1) = (worths ls).take k ++ [ls[k].qty * ls[k].price] := by
  rw [List.take_succ_eq_append_getElem (by rw [worths_len]; exact hk)]; simp [worths]
theorem due_bd {s : St} (hl : ∀ l ∈ s.lines, lnB l = true) (hn : s.lines.length ≤ 16) (ht : 0 ≤ s.tax ∧ s.tax ≤ 5000) : 0 ≤ due s ∧ due s ≤ 320000000000000 := by
  have hb := lines_net hl hn
  have htx := tax_bound hb.1 ht.1 ht.2
  unfold due
  omega
theorem parts_shOk {s : St} (hl : ∀ l ∈ s.lines, lnB l = true) (hn : s.lines.length ≤ 16) (ht : 0 ≤ s.tax ∧ s.tax ≤ 5000) (h0 : net s.lines ≠ 0) : shOk (due s) (worths s.lines) := by
  have hb := lines_net hl hn
  have hd := due_bd hl hn ht
  have hi := worths_i64 hl
  have hlen := worths_len s.lines
  have hsum := worths_sum s.lines
  have hf : fits64 (net s.lines) = true := by unfold fits64; simp; omega
  refine ⟨hd.1, by omega, fun v hv => (worths_mem hl v hv).1, ?_, ?_⟩
  · rw [sumFits_eq _ hi (by omega), hsum]; exact hf
  · rw [sumOf_eq _ hi (by omega), hsum]; unfold nf; rw [hf]; exact h0
theorem ints_app (a b : List Int) : ints (a ++ b) = ints a ++ ints b := by simp [ints]
theorem ints_len (a : List Int) : (ints a).length = a.length := by simp [ints]
theorem rd_newg {w : World} {g : Nat} (v : Value) (t : TypeId) (hg : w.heap.size = g) : Rd (w.alloc (.cells #[v] t)) (some ⟨g, 0, none⟩) 1 [v] := by
  subst hg
  exact rd_new w #[v] t
theorem el_ints : Elem Tryz.prog 3 (.int .i64 0) 1 8 := ⟨by kernel_rfl, rfl, by decide⟩
def PaR (W : World) (n : Nat) (l : List Int) (v6 v29 : Value) (e : TypeId) (wr : World) : Prop :=
  ∃ (k : Nat) (B : Option Addr) (d : Nat), v29 = .int .i64 (k : Nat) ∧ k ≤ n ∧ v6 = .slice B k d ∧ Ext W wr ∧ wr.ownsRow W.heap.size e 1 (.slice B k d) k (ints (l.take k))
set_option maxRecDepth 100000 in
set_option maxHeartbeats 4000000 in
theorem parts_yes (s : St) (A : Option Addr) (c : Nat) (w : World) (hr : LsRd w A s.lines) (hn : s.lines.length ≤ 4611686018427387904) (hw : s.who.size ≤ 4611686018427387904) (hv : validB s = true) (h0 : net s.lines ≠ 0) :
    Calls Tryz.prog 6 #[.agg (stcells s A c)] w fun e w' => ∃ B d, e = .returned (.tuple #[.slice B s.lines.length d, .bool true]) ∧ Ext w w' ∧ Rd w' B s.lines.length (ints (shList (due s).toNat (worths s.lines))) := by
  obtain ⟨hl, h16, ht⟩ := valid_tax hv
  have hok := parts_shOk hl h16 ht h0
  have hd := due_bd hl h16 ht
  have K1 : Hid (∀ W, LsRd W A s.lines → Calls Tryz.prog 8 #[.agg (stcells s A c)] W fun e w' => e = .returned (.tuple #[.int .i64 (due s), .bool true]) ∧ Ext W w') := Lib.hid fun W h => by
    have := pdue_any s A c W h hn hw
    rw [if_pos hv, hv] at this
    exact this
  have K2 := Lib.hid fun W (h : LsRd W A s.lines) => net_any s A c W h hl h16
  have K3 := Lib.hid fun B d W (h : Rd W B s.lines.length (ints (worths s.lines))) => share_ok (due s) B s.lines.length d (worths s.lines) W (by omega) (by omega) h (worths_i64 hl) (by simp only [maxLen]; omega) hok
  have tz : (net s.lines == 0) = false := by simpa using h0
  have HSL : Hid (∀ W g, Blk W g 2 (rowA .i64 s.lines.length (shareN (due s).toNat (worths s.lines))) → Rd W (some ⟨g, 0, none⟩) s.lines.length (ints (shList (due s).toNat (worths s.lines)))) := Lib.hid fun W g h => rd_share (worths_len _) h
  have HL : Hid ((shList (due s).toNat (worths s.lines)).length = s.lines.length) := Lib.hid (by rw [shList_len, worths_len])
  have HWL := Lib.hid (worths_len s.lines)
  have HWT := Lib.hid fun k (hk : k < s.lines.length) => worths_take hk
  have Hln := Lib.hid hl
  have HR := Lib.hid hr
  generalize rowA .i64 s.lines.length (shareN (due s).toNat (worths s.lines)) = row at *
  generalize shList (due s).toNat (worths s.lines) = sl at *
  generalize due s = D at *
  generalize net s.lines = N at *
  obtain ⟨n, hnn⟩ : ∃ n, n = s.lines.length := ⟨_, rfl⟩
  have HN := Lib.hid hnn
  have hn16 : n ≤ 16 := by omega
  clear hnn hok hv h0 ht hl h16 hn hw hr
  unfold stcells at K1 K2 ⊢
  go_enter Tryz.func6, Tryz.ntmps6
  go_upto_region 5 with (first
    | (go_at_call 8; (with_reducible refine (K1.out _ (HR.out.ext (by repeat (first | with_reducible exact Below.refl _ _ | with_reducible assumption | with_reducible refine ExtD ?_ | with_reducible refine ExtDN ?_ | with_reducible refine ExtA ?_ | (with_reducible refine ExtR ?_ ?_; (first | omega | (dsimp only; omega) | (simp; done) | (simp; omega))) | (with_reducible refine ExtS ?_ ?_; (first | omega | (dsimp only; omega) | (simp; done) | (simp; omega))) | with_reducible refine Ext.tr ?_ (by with_reducible assumption))))).mono ?_); rintro e w1 ⟨rfl, hx1⟩; have c2 : Blk w1 w.heap.size 25 (stcells s A c) := BlkE (BlkN rfl) hx1; (have a0 : World.cell? w1 ⟨w.heap.size, 0, none⟩ = some (.int .i64 s.order) := Blk.cell c2 0; have a1 : World.cell? w1 ⟨w.heap.size, 1, none⟩ = some (.int .i64 s.status) := Blk.cell c2 1; have a2 : World.cell? w1 ⟨w.heap.size, 2, none⟩ = some (.int .i64 s.prior) := Blk.cell c2 2; have a3 : World.cell? w1 ⟨w.heap.size, 3, none⟩ = some (.int .i64 s.cur) := Blk.cell c2 3; have a4 : World.cell? w1 ⟨w.heap.size, 4, none⟩ = some (.int .i64 s.tax) := Blk.cell c2 4; have a5 : World.cell? w1 ⟨w.heap.size, 5, none⟩ = some (.slice A s.lines.length c) := Blk.cell c2 5; have a6 : World.cell? w1 ⟨w.heap.size, 6, none⟩ = some (.int .i64 s.paid) := Blk.cell c2 6; have a7 : World.cell? w1 ⟨w.heap.size, 7, none⟩ = some (.int .i64 s.refunded) := Blk.cell c2 7; have a8 : World.cell? w1 ⟨w.heap.size, 8, none⟩ = some (.int .i64 s.events) := Blk.cell c2 8; have a9 : World.cell? w1 ⟨w.heap.size, 9, none⟩ = some (.int .i64 s.refused) := Blk.cell c2 9; have a10 : World.cell? w1 ⟨w.heap.size, 10, none⟩ = some (.int .i64 s.stamp) := Blk.cell c2 10; have a11 : World.cell? w1 ⟨w.heap.size, 11, none⟩ = some (.string s.who) := Blk.cell c2 11))
    | (go_at_call 17; (with_reducible refine (K2.out _ (HR.out.ext (by repeat (first | with_reducible exact Below.refl _ _ | with_reducible assumption | with_reducible refine ExtD ?_ | with_reducible refine ExtDN ?_ | with_reducible refine ExtA ?_ | (with_reducible refine ExtR ?_ ?_; (first | omega | (dsimp only; omega) | (simp; done) | (simp; omega))) | (with_reducible refine ExtS ?_ ?_; (first | omega | (dsimp only; omega) | (simp; done) | (simp; omega))) | with_reducible refine Ext.tr ?_ (by with_reducible assumption))))).mono ?_); rintro e w2 ⟨rfl, hx2⟩; have c2 := BlkE c2 hx2; have e5 : w2.cell? ⟨w.heap.size, 5, none⟩ = some (.slice A s.lines.length c) := c2.cell 5))
  rw [← HN.out] at e5 HL HSL K3 HWL ⊢
  have hx0 : Ext w w2 := (by repeat (first | with_reducible exact Below.refl _ _ | with_reducible assumption | with_reducible refine ExtD ?_ | with_reducible refine ExtDN ?_ | with_reducible refine ExtA ?_ | (with_reducible refine ExtR ?_ ?_; (first | omega | (dsimp only; omega) | (simp; done) | (simp; omega))) | (with_reducible refine ExtS ?_ ?_; (first | omega | (dsimp only; omega) | (simp; done) | (simp; omega))) | with_reducible refine Ext.tr ?_ (by with_reducible assumption)))
  have HX0 := Lib.hid hx0
  have hz : w.heap.size ≤ w2.heap.size := hx0.size
  clear hx1 hx2 c2 hx0
  go_wp2_with fail
  go_loopw [6, 8, 29] (fun v6 _ v29 wr => PaR w2 n (worths s.lines) v6 v29 2 wr) (fun _ _ v29 _ => n - (intOf v29).toNat)
  case atStart => exact ⟨0, none, 0, rfl, by omega, rfl, (by repeat (first | with_reducible exact Below.refl _ _ | with_reducible assumption | with_reducible refine ExtD ?_ | with_reducible refine ExtDN ?_ | with_reducible refine ExtA ?_ | (with_reducible refine ExtR ?_ ?_; (first | omega | (dsimp only; omega) | (simp; done) | (simp; omega))) | (with_reducible refine ExtS ?_ ?_; (first | omega | (dsimp only; omega) | (simp; done) | (simp; omega))) | with_reducible refine Ext.tr ?_ (by with_reducible assumption))), World.ownsRow_nil _ _ _ _⟩
  case round =>
    obtain ⟨k, B, d, rfl, hk, rfl, hx, ho⟩ := hrel
    have hsz : w2.heap.size ≤ wr.heap.size := hx.size
    have HO := Lib.hid ho
    have HX := Lib.hid hx
    by_cases hlt : k < n
    · obtain ⟨b, o, rfl, hc⟩ := ls_at HR.out (show k < s.lines.length by rw [← HN.out]; exact hlt)
      have Hc := Lib.hid (range_ext hc (HX0.out.tr hx))
      have hal := alloc_ln
      have hp := prod_ok (Hln.out _ (List.getElem_mem (show k < s.lines.length by rw [← HN.out]; exact hlt)))
      have HT := Lib.hid (HWT.out k (show k < s.lines.length by rw [← HN.out]; exact hlt))
      clear hc ho HWT
      generalize s.lines[k]'(by rw [← HN.out]; exact hlt) = l at *
      obtain ⟨li, lp, lq, lsh⟩ := l
      dsimp only at hp HT
      unfold lncells at Hc hal
      dsimp only at Hc hal
      have e0 : wr.cell? ⟨b, o + k * 4, none⟩ = some (.int .i64 li) := Hc.out 0 _ rfl
      have e1 : wr.cell? ⟨b, o + k * 4 + 1, none⟩ = some (.int .i64 lp) := Hc.out 1 _ rfl
      have e2 : wr.cell? ⟨b, o + k * 4 + 2, none⟩ = some (.int .i64 lq) := Hc.out 2 _ rfl
      have e3 : wr.cell? ⟨b, o + k * 4 + 3, none⟩ = some (.int .i64 lsh) := Hc.out 3 _ rfl
      have HQ : Hid (ints ((worths s.lines).take k) ++ [.int .i64 (lq * lp)] = ints ((worths s.lines).take (k + 1))) := Lib.hid (by rw [HT.out, ints_app]; rfl)
      go_wp2_with (at_builtin; go_must (refine wpL_append rfl (.tmp 33) (.tmp 39) 46 rfl w2.heap.size 2 _ 1 8 Tryz.underlying46 el_i64s (.slice B k d) _ _ rfl (own_ext (by repeat (first | with_reducible exact Below.refl _ _ | with_reducible assumption | with_reducible refine ExtD ?_ | with_reducible refine ExtDN ?_ | with_reducible refine ExtA ?_ | (with_reducible refine ExtR ?_ ?_; (first | omega | (dsimp only; omega) | (simp; done) | (simp; omega))) | (with_reducible refine ExtS ?_ ?_; (first | omega | (dsimp only; omega) | (simp; done) | (simp; omega))) | with_reducible refine Ext.tr ?_ (by with_reducible assumption))) HO.out) _ _ _ _ rfl (Rd.toN (rd_newg (.int .i64 (lq * lp)) 2 (by simp))) (by intro u hu; simp at hu; subst hu; rfl) _ _ rfl HQ.out (by simp only [maxLen]; omega) (by omega) (by simp; omega) ?_); intro v1 w7 hown1 hg1 _; obtain ⟨B1, d1, rfl⟩ := own_slice hown1)
      go_roundw
      case rel => exact ⟨k + 1, B1, d1, by go_num, by omega, rfl, Ext.grown (by exact (by repeat (first | with_reducible exact Below.refl _ _ | with_reducible assumption | with_reducible refine ExtD ?_ | with_reducible refine ExtDN ?_ | with_reducible refine ExtA ?_ | (with_reducible refine ExtR ?_ ?_; (first | omega | (dsimp only; omega) | (simp; done) | (simp; omega))) | (with_reducible refine ExtS ?_ ?_; (first | omega | (dsimp only; omega) | (simp; done) | (simp; omega))) | with_reducible refine Ext.tr ?_ (by with_reducible assumption)))) hg1 (fun r hr => own_lt HO.out r hr), hown1⟩
      case measure => simp [intOf]; omega
    · obtain rfl : k = n := by omega
      have htk : (worths s.lines).take k = worths s.lines := List.take_of_length_le (Nat.le_of_eq HWL.out)
      have ho2 := ho
      rw [htk] at ho2
      have HP := Lib.hid (Rd.of_own ho2)
      clear ho ho2 hx htk hsz HO e5
      go_wp2_with (go_at_call 18; (with_reducible refine (K3.out _ _ _ HP.out).mono ?_); rintro e w5 ⟨g5, rfl, hx5, hg5, hb5⟩; have R5 := Lib.hid (HSL.out _ _ hb5))
      have HX5 := Lib.hid ((HX0.out.tr HX.out).tr hx5)
      clear hx5 hb5 hg5
      go_loopw [11, 13, 50] (fun v11 _ v50 wr => PaR w5 k sl v11 v50 3 wr) (fun _ _ v50 _ => k - (intOf v50).toNat)
      case atStart => exact ⟨0, none, 0, rfl, by omega, rfl, (by repeat (first | with_reducible exact Below.refl _ _ | with_reducible assumption | with_reducible refine ExtD ?_ | with_reducible refine ExtDN ?_ | with_reducible refine ExtA ?_ | (with_reducible refine ExtR ?_ ?_; (first | omega | (dsimp only; omega) | (simp; done) | (simp; omega))) | (with_reducible refine ExtS ?_ ?_; (first | omega | (dsimp only; omega) | (simp; done) | (simp; omega))) | with_reducible refine Ext.tr ?_ (by with_reducible assumption))), World.ownsRow_nil _ _ _ _⟩
      case round =>
        obtain ⟨j, B, d, rfl, hj, rfl, hx, ho⟩ := hrel
        have hsz : w5.heap.size ≤ wr.heap.size := hx.size
        have HO := Lib.hid ho
        have HX2 := Lib.hid hx
        by_cases hjk : j < k
        · obtain ⟨b, o, he, hc1⟩ := at_ints (R5.out.ext hx) hjk
          injection he with he
          injection he with he1 he2
          subst he1
          subst he2
          rw [Nat.zero_add] at hc1
          have HQ : Hid (ints (sl.take j) ++ [.int .i64 (sl.getD j 0)] = ints (sl.take (j + 1))) := Lib.hid (by rw [ntake_snoc sl j (by rw [HL.out]; exact hjk), ints_app]; rfl)
          generalize sl.getD j 0 = x at *
          clear ho
          go_wp2_with (at_builtin; go_must (refine wpL_append rfl (.tmp 54) (.tmp 56) 27 rfl w5.heap.size 3 _ 1 8 Tryz.underlying27 el_ints (.slice B j d) _ _ rfl (own_ext (by repeat (first | with_reducible exact Below.refl _ _ | with_reducible assumption | with_reducible refine ExtD ?_ | with_reducible refine ExtDN ?_ | with_reducible refine ExtA ?_ | (with_reducible refine ExtR ?_ ?_; (first | omega | (dsimp only; omega) | (simp; done) | (simp; omega))) | (with_reducible refine ExtS ?_ ?_; (first | omega | (dsimp only; omega) | (simp; done) | (simp; omega))) | with_reducible refine Ext.tr ?_ (by with_reducible assumption))) HO.out) _ _ _ _ rfl (Rd.toN (rd_newg (.int .i64 x) 3 (by simp))) (by intro u hu; simp at hu; subst hu; rfl) _ _ rfl HQ.out (by simp only [maxLen]; omega) (by omega) (by simp; omega) ?_); intro v1 w7 hown1 hg1 _; obtain ⟨B1, d1, rfl⟩ := own_slice hown1)
          go_roundw
          case rel => exact ⟨j + 1, B1, d1, by go_num, by omega, rfl, Ext.grown (by exact (by repeat (first | with_reducible exact Below.refl _ _ | with_reducible assumption | with_reducible refine ExtD ?_ | with_reducible refine ExtDN ?_ | with_reducible refine ExtA ?_ | (with_reducible refine ExtR ?_ ?_; (first | omega | (dsimp only; omega) | (simp; done) | (simp; omega))) | (with_reducible refine ExtS ?_ ?_; (first | omega | (dsimp only; omega) | (simp; done) | (simp; omega))) | with_reducible refine Ext.tr ?_ (by with_reducible assumption)))) hg1 (fun r hr => own_lt HO.out r hr), hown1⟩
          case measure => simp [intOf]; omega
        · obtain rfl : j = k := by omega
          have htk : sl.take j = sl := List.take_of_length_le (Nat.le_of_eq HL.out)
          rw [htk] at ho
          have HP2 := Lib.hid (Rd.of_own ho)
          clear ho
          go_wp2_with fail
          go_ret2
          rw [← HN.out]
          exact ⟨B, d, rfl, HX5.out.tr hx, HP2.out⟩
set_option maxRecDepth 100000 in
set_option maxHeartbeats 4000000 in
theorem parts_no (s : St) (A : Option Addr) (c : Nat) (w : World) (hr : LsRd w A s.lines) (hn : s.lines.length ≤ 4611686018427387904) (hw : s.who.size ≤ 4611686018427387904) (hv : ¬ (validB s = true ∧ net s.lines ≠ 0)) :
    Calls Tryz.prog 6 #[.agg (stcells s A c)] w fun e w' => e = .returned (.tuple #[.slice none 0 0, .bool false]) ∧ Ext w w' := by
  have HR := Lib.hid hr
  by_cases hv1 : validB s = true
  · have h0 : net s.lines = 0 := by
      rcases Decidable.em (net s.lines = 0) with h | h
      · exact h
      · exact absurd ⟨hv1, h⟩ hv
    obtain ⟨hl, h16, ht⟩ := valid_tax hv1
    have K1 : Hid (∀ W, LsRd W A s.lines → Calls Tryz.prog 8 #[.agg (stcells s A c)] W fun e w' => e = .returned (.tuple #[.int .i64 (due s), .bool true]) ∧ Ext W w') := Lib.hid fun W h => by
      have := pdue_any s A c W h hn hw
      rw [if_pos hv1, hv1] at this
      exact this
    have K2 : Hid (∀ W, LsRd W A s.lines → Calls Tryz.prog 17 #[.agg (stcells s A c)] W fun e w' => e = .returned (.int .i64 0) ∧ Ext W w') := Lib.hid fun W h => by
      have := net_any s A c W h hl h16
      rw [h0] at this
      exact this
    generalize due s = D at *
    clear hv hv1 h0 ht hl h16 hn hw hr
    unfold stcells at K1 K2 ⊢
    go_enter Tryz.func6, Tryz.ntmps6
    go_wp2_with (first
      | (go_at_call 8; (with_reducible refine (K1.out _ (HR.out.ext (by repeat (first | with_reducible exact Below.refl _ _ | with_reducible assumption | with_reducible refine ExtD ?_ | with_reducible refine ExtDN ?_ | with_reducible refine ExtA ?_ | (with_reducible refine ExtR ?_ ?_; (first | omega | (dsimp only; omega) | (simp; done) | (simp; omega))) | (with_reducible refine ExtS ?_ ?_; (first | omega | (dsimp only; omega) | (simp; done) | (simp; omega))) | with_reducible refine Ext.tr ?_ (by with_reducible assumption))))).mono ?_); rintro e w1 ⟨rfl, hx1⟩; have c2 : Blk w1 w.heap.size 25 (stcells s A c) := BlkE (BlkN rfl) hx1; (have a0 : World.cell? w1 ⟨w.heap.size, 0, none⟩ = some (.int .i64 s.order) := Blk.cell c2 0; have a1 : World.cell? w1 ⟨w.heap.size, 1, none⟩ = some (.int .i64 s.status) := Blk.cell c2 1; have a2 : World.cell? w1 ⟨w.heap.size, 2, none⟩ = some (.int .i64 s.prior) := Blk.cell c2 2; have a3 : World.cell? w1 ⟨w.heap.size, 3, none⟩ = some (.int .i64 s.cur) := Blk.cell c2 3; have a4 : World.cell? w1 ⟨w.heap.size, 4, none⟩ = some (.int .i64 s.tax) := Blk.cell c2 4; have a5 : World.cell? w1 ⟨w.heap.size, 5, none⟩ = some (.slice A s.lines.length c) := Blk.cell c2 5; have a6 : World.cell? w1 ⟨w.heap.size, 6, none⟩ = some (.int .i64 s.paid) := Blk.cell c2 6; have a7 : World.cell? w1 ⟨w.heap.size, 7, none⟩ = some (.int .i64 s.refunded) := Blk.cell c2 7; have a8 : World.cell? w1 ⟨w.heap.size, 8, none⟩ = some (.int .i64 s.events) := Blk.cell c2 8; have a9 : World.cell? w1 ⟨w.heap.size, 9, none⟩ = some (.int .i64 s.refused) := Blk.cell c2 9; have a10 : World.cell? w1 ⟨w.heap.size, 10, none⟩ = some (.int .i64 s.stamp) := Blk.cell c2 10; have a11 : World.cell? w1 ⟨w.heap.size, 11, none⟩ = some (.string s.who) := Blk.cell c2 11))
      | (go_at_call 17; (with_reducible refine (K2.out _ (HR.out.ext (by repeat (first | with_reducible exact Below.refl _ _ | with_reducible assumption | with_reducible refine ExtD ?_ | with_reducible refine ExtDN ?_ | with_reducible refine ExtA ?_ | (with_reducible refine ExtR ?_ ?_; (first | omega | (dsimp only; omega) | (simp; done) | (simp; omega))) | (with_reducible refine ExtS ?_ ?_; (first | omega | (dsimp only; omega) | (simp; done) | (simp; omega))) | with_reducible refine Ext.tr ?_ (by with_reducible assumption))))).mono ?_); rintro e w2 ⟨rfl, hx2⟩))
    go_ret2
    exact ⟨rfl, (by repeat (first | with_reducible exact Below.refl _ _ | with_reducible assumption | with_reducible refine ExtD ?_ | with_reducible refine ExtDN ?_ | with_reducible refine ExtA ?_ | (with_reducible refine ExtR ?_ ?_; (first | omega | (dsimp only; omega) | (simp; done) | (simp; omega))) | (with_reducible refine ExtS ?_ ?_; (first | omega | (dsimp only; omega) | (simp; done) | (simp; omega))) | with_reducible refine Ext.tr ?_ (by with_reducible assumption)))⟩
  · have hf : validB s = false := by simpa using hv1
    have K1 : Hid (∀ W, LsRd W A s.lines → Calls Tryz.prog 8 #[.agg (stcells s A c)] W fun e w' => e = .returned (.tuple #[.int .i64 0, .bool false]) ∧ Ext W w') := Lib.hid fun W h => by
      have := pdue_any s A c W h hn hw
      rw [if_neg hv1, hf] at this
      exact this
    clear hv hv1 hf hn hw hr
    unfold stcells at K1 ⊢
    go_enter Tryz.func6, Tryz.ntmps6
    go_wp2_with (go_at_call 8; (with_reducible refine (K1.out _ (HR.out.ext (by repeat (first | with_reducible exact Below.refl _ _ | with_reducible assumption | with_reducible refine ExtD ?_ | with_reducible refine ExtDN ?_ | with_reducible refine ExtA ?_ | (with_reducible refine ExtR ?_ ?_; (first | omega | (dsimp only; omega) | (simp; done) | (simp; omega))) | (with_reducible refine ExtS ?_ ?_; (first | omega | (dsimp only; omega) | (simp; done) | (simp; omega))) | with_reducible refine Ext.tr ?_ (by with_reducible assumption))))).mono ?_); rintro e w1 ⟨rfl, hx1⟩)
    go_ret2
    exact ⟨rfl, (by repeat (first | with_reducible exact Below.refl _ _ | with_reducible assumption | with_reducible refine ExtD ?_ | with_reducible refine ExtDN ?_ | with_reducible refine ExtA ?_ | (with_reducible refine ExtR ?_ ?_; (first | omega | (dsimp only; omega) | (simp; done) | (simp; omega))) | (with_reducible refine ExtS ?_ ?_; (first | omega | (dsimp only; omega) | (simp; done) | (simp; omega))) | with_reducible refine Ext.tr ?_ (by with_reducible assumption)))⟩
section
variable {w : World}
theorem step_appendI {ops : Array Oper} {o : Oper} {a : Act} {K : Act → World → Prop} {Q : Exit → Act → World → Prop} {E : Prop} (hgd : o.guard = none) (d : Option Tmp) (hd : o.dst = d) (s x : Operand)
    (ho : o.op = .call { callee := .builtin .append, args := #[s, x], argTypes := #[46, 46] }) (W : World)
    {A0 : Option Addr} {n0 c0 : Nat} {xs : List Value} (hs : a.eval s = .slice A0 n0 c0) (hown : w.ownsRow W.heap.size 2 1 (.slice A0 n0 c0) n0 xs) (hW : Ext W w)
    {A : Option Addr} {m c : Nat} {news : List Value} (hx : a.eval x = .slice A m c) (hr : Rd w A m news) (h1 : ∀ u ∈ news, u.oneCell' = true) (hb : n0 + m ≤ 1000000) (xs' : List Value) (hxs : xs ++ news = xs')
    (hK : ∀ A' c' w', Ext W w' → w'.ownsRow W.heap.size 2 1 (.slice A' (n0 + m) c') (n0 + m) xs' → K (a.put d (.slice A' (n0 + m) c')) w') :
    if Region.wanted o (yielded ops a.tmps) = true then Oper.wp Tryz.prog o a w K Q else E := by
  subst hd
  subst hxs
  have hw : Region.wanted o (yielded ops a.tmps) = true := by simp [Region.wanted, hgd]
  rw [if_pos hw]
  obtain ⟨v', w', hrun, r1, r2, _⟩ := run_append_rd (P := Tryz.prog) W.heap.size 46 o.type 2 _ 1 8 Tryz.underlying46 el_i64s _ n0 _ hown A m c _ hr.toN h1 (by simp only [maxLen]; omega) (by omega) hW.size
  obtain ⟨A', c', rfl⟩ := own_slice r1
  unfold Oper.wp
  simp [execOp, ho, resolve, invoke, builtin, hs, hx, hrun, Result.andThen]
  exact hK A' c' w' (Ext.grown hW r2 fun g hg' => own_lt hown g hg') r1
end
set_option maxRecDepth 100000 in
set_option maxHeartbeats 4000000 in
theorem rparts_yes (s : St) (A : Option Addr) (c : Nat) (w : World) (hr : LsRd w A s.lines) (hn : s.lines.length ≤ 4611686018427387904) (hw : s.who.size ≤ 4611686018427387904) (hv : validB s = true) (h0 : net s.lines ≠ 0) :
    Calls Tryz.prog 5 #[.agg (stcells s A c)] w fun e w' => ∃ B d, e = .returned (.tuple #[.slice B s.lines.length d, .bool true]) ∧ Ext w w' ∧ Rd w' B s.lines.length (ints (shList (due s).toNat (worths s.lines))) := by
  obtain ⟨hl, h16, ht⟩ := valid_tax hv
  have hok := parts_shOk hl h16 ht h0
  have hd := due_bd hl h16 ht
  have KV : Hid (∀ W, LsRd W A s.lines → Calls Tryz.prog 13 #[.agg (stcells s A c)] W fun e w' => e = .returned (.bool true) ∧ Ext W w') := Lib.hid fun W h => by
    have := rvalid_any s A c W h hn hw
    rw [hv] at this
    exact this
  have K1 := Lib.hid fun W (h : LsRd W A s.lines) => rdue_any s A c W h hl h16 ht
  have K2 := Lib.hid fun W (h : LsRd W A s.lines) => rnet_any s A c W h hl h16
  have K3 := Lib.hid fun B d W (h : Rd W B s.lines.length (ints (worths s.lines))) => refshare_ok (due s) B s.lines.length d (worths s.lines) W (by omega) (by omega) h (worths_i64 hl) (by simp only [maxLen]; omega) hok
  have tz : (net s.lines == 0) = false := by simpa using h0
  have HL : Hid ((shList (due s).toNat (worths s.lines)).length = s.lines.length) := Lib.hid (by rw [shList_len, worths_len])
  have HWL := Lib.hid (worths_len s.lines)
  have HWT := Lib.hid fun k (hk : k < s.lines.length) => worths_take hk
  have Hln := Lib.hid hl
  have HR := Lib.hid hr
  generalize shList (due s).toNat (worths s.lines) = sl at *
  generalize due s = D at *
  generalize net s.lines = N at *
  obtain ⟨n, hnn⟩ : ∃ n, n = s.lines.length := ⟨_, rfl⟩
  have HN := Lib.hid hnn
  have hn16 : n ≤ 16 := by omega
  clear hnn hok hv h0 ht hl h16 hn hw hr
  unfold stcells at KV K1 K2 ⊢
  go_enter Tryz.func5, Tryz.ntmps5
  go_upto_region 4 with (first
    | (go_at_call 13; (with_reducible refine (KV.out _ (HR.out.ext (by repeat (first | with_reducible exact Below.refl _ _ | with_reducible assumption | with_reducible refine ExtD ?_ | with_reducible refine ExtDN ?_ | with_reducible refine ExtA ?_ | (with_reducible refine ExtR ?_ ?_; (first | omega | (dsimp only; omega) | (simp; done) | (simp; omega))) | (with_reducible refine ExtS ?_ ?_; (first | omega | (dsimp only; omega) | (simp; done) | (simp; omega))) | with_reducible refine Ext.tr ?_ (by with_reducible assumption))))).mono ?_); rintro e w1 ⟨rfl, hx1⟩; have c2 : Blk w1 w.heap.size 25 (stcells s A c) := BlkE (BlkN rfl) hx1; (have a0 : World.cell? w1 ⟨w.heap.size, 0, none⟩ = some (.int .i64 s.order) := Blk.cell c2 0; have a1 : World.cell? w1 ⟨w.heap.size, 1, none⟩ = some (.int .i64 s.status) := Blk.cell c2 1; have a2 : World.cell? w1 ⟨w.heap.size, 2, none⟩ = some (.int .i64 s.prior) := Blk.cell c2 2; have a3 : World.cell? w1 ⟨w.heap.size, 3, none⟩ = some (.int .i64 s.cur) := Blk.cell c2 3; have a4 : World.cell? w1 ⟨w.heap.size, 4, none⟩ = some (.int .i64 s.tax) := Blk.cell c2 4; have a5 : World.cell? w1 ⟨w.heap.size, 5, none⟩ = some (.slice A s.lines.length c) := Blk.cell c2 5; have a6 : World.cell? w1 ⟨w.heap.size, 6, none⟩ = some (.int .i64 s.paid) := Blk.cell c2 6; have a7 : World.cell? w1 ⟨w.heap.size, 7, none⟩ = some (.int .i64 s.refunded) := Blk.cell c2 7; have a8 : World.cell? w1 ⟨w.heap.size, 8, none⟩ = some (.int .i64 s.events) := Blk.cell c2 8; have a9 : World.cell? w1 ⟨w.heap.size, 9, none⟩ = some (.int .i64 s.refused) := Blk.cell c2 9; have a10 : World.cell? w1 ⟨w.heap.size, 10, none⟩ = some (.int .i64 s.stamp) := Blk.cell c2 10; have a11 : World.cell? w1 ⟨w.heap.size, 11, none⟩ = some (.string s.who) := Blk.cell c2 11))
    | (go_at_call 14; (with_reducible refine (K2.out _ (HR.out.ext (by repeat (first | with_reducible exact Below.refl _ _ | with_reducible assumption | with_reducible refine ExtD ?_ | with_reducible refine ExtDN ?_ | with_reducible refine ExtA ?_ | (with_reducible refine ExtR ?_ ?_; (first | omega | (dsimp only; omega) | (simp; done) | (simp; omega))) | (with_reducible refine ExtS ?_ ?_; (first | omega | (dsimp only; omega) | (simp; done) | (simp; omega))) | with_reducible refine Ext.tr ?_ (by with_reducible assumption))))).mono ?_); rintro e w2 ⟨rfl, hx2⟩; have c2 := BlkE c2 hx2))
  rw [← HN.out] at HL K3 HWL
  have e5 : w2.cell? ⟨w.heap.size, 5, none⟩ = some (.slice A s.lines.length c) := c2.cell 5
  rw [← HN.out] at e5
  have hx0 : Ext w w2 := (by repeat (first | with_reducible exact Below.refl _ _ | with_reducible assumption | with_reducible refine ExtD ?_ | with_reducible refine ExtDN ?_ | with_reducible refine ExtA ?_ | (with_reducible refine ExtR ?_ ?_; (first | omega | (dsimp only; omega) | (simp; done) | (simp; omega))) | (with_reducible refine ExtS ?_ ?_; (first | omega | (dsimp only; omega) | (simp; done) | (simp; omega))) | with_reducible refine Ext.tr ?_ (by with_reducible assumption)))
  have HX0 := Lib.hid hx0
  have C2 := Lib.hid c2
  have hz : w.heap.size < w2.heap.size := c2.lt
  have e7 : ∀ ob, (w2.alloc ob).cell? ⟨w.heap.size, 5, none⟩ = some (.slice A n c) := fun ob => (ExtA (o := ob) (Ext.rfl' w2)).cell e5
  clear hx1 hx2 c2 hx0
  go_wp2_with fail
  go_loopw [4, 5, 22] (fun v4 _ v22 wr => PaR w2 n (worths s.lines) v4 v22 2 wr) (fun _ _ v22 _ => n - (intOf v22).toNat)
  case atStart => exact ⟨0, some ⟨w2.heap.size, 0, none⟩, 0, rfl, by omega, rfl, (by repeat (first | with_reducible exact Below.refl _ _ | with_reducible assumption | with_reducible refine ExtD ?_ | with_reducible refine ExtDN ?_ | with_reducible refine ExtA ?_ | (with_reducible refine ExtR ?_ ?_; (first | omega | (dsimp only; omega) | (simp; done) | (simp; omega))) | (with_reducible refine ExtS ?_ ?_; (first | omega | (dsimp only; omega) | (simp; done) | (simp; omega))) | with_reducible refine Ext.tr ?_ (by with_reducible assumption))), own_new w2 w2.heap.size #[] 2 0 (Nat.le_refl _) (by decide) rfl⟩
  case round =>
    obtain ⟨k, B, d, rfl, hk, rfl, hx, ho⟩ := hrel
    have hsz : w2.heap.size ≤ wr.heap.size := hx.size
    have HO := Lib.hid ho
    have HX := Lib.hid hx
    by_cases hlt : k < n
    · obtain ⟨b, o, rfl, hc⟩ := ls_at HR.out (show k < s.lines.length by rw [← HN.out]; exact hlt)
      have Hc := Lib.hid (range_ext hc HX0.out)
      have hp := prod_ok (Hln.out _ (List.getElem_mem (show k < s.lines.length by rw [← HN.out]; exact hlt)))
      have HT := Lib.hid (HWT.out k (show k < s.lines.length by rw [← HN.out]; exact hlt))
      have c5 := C2.out.cell 5
      clear hc ho HWT
      generalize s.lines[k]'(by rw [← HN.out]; exact hlt) = l at *
      obtain ⟨li, lp, lq, lsh⟩ := l
      dsimp only at hp HT
      unfold lncells at Hc
      dsimp only at Hc
      have e1 : w2.cell? ⟨b, o + k * 4 + 1, none⟩ = some (.int .i64 lp) := Hc.out 1 _ rfl
      have e2 : w2.cell? ⟨b, o + k * 4 + 2, none⟩ = some (.int .i64 lq) := Hc.out 2 _ rfl
      have e6 : w2.cell? ⟨w.heap.size, 5, none⟩ = some (.slice (some ⟨b, o, none⟩) s.lines.length c) := c5
      rw [← HN.out] at e6
      have HQ : Hid (ints ((worths s.lines).take k) ++ [.int .i64 (lq * lp)] = ints ((worths s.lines).take (k + 1))) := Lib.hid (by rw [HT.out, ints_app]; rfl)
      have HS : Hid (∀ w', Ext w2 w' → (fun w' : World => w'.cell? ⟨w.heap.size, 5, none⟩ = some (.slice (some ⟨b, o, none⟩) n c) ∧ w'.cell? ⟨b, o + k * 4 + 2, none⟩ = some (.int .i64 lq) ∧ w'.cell? ⟨b, o + k * 4 + 1, none⟩ = some (.int .i64 lp)) w') := Lib.hid fun w' h => ⟨h.cell e6, h.cell e2, h.cell e1⟩
      have hwm : IntKind.i64.wrap (lq * lp) = lq * lp := by rw [IntKind.wrap_i64]; omega
      clear e1 e2 e6 c5
      go_wp2_with fail
      go_region_held3 (fun w' : World => w'.cell? ⟨w.heap.size, 5, none⟩ = some (.slice (some ⟨b, o, none⟩) n c) ∧ w'.cell? ⟨b, o + k * 4 + 2, none⟩ = some (.int .i64 lq) ∧ w'.cell? ⟨b, o + k * 4 + 1, none⟩ = some (.int .i64 lp)) (exact HS.out _ (by repeat (first | with_reducible exact Below.refl _ _ | with_reducible assumption | with_reducible refine ExtD ?_ | with_reducible refine ExtDN ?_ | with_reducible refine ExtA ?_ | (with_reducible refine ExtR ?_ ?_; (first | omega | (dsimp only; omega) | (simp; done) | (simp; omega))) | (with_reducible refine ExtS ?_ ?_; (first | omega | (dsimp only; omega) | (simp; done) | (simp; omega))) | with_reducible refine Ext.tr ?_ (by with_reducible assumption))))
        ((refine step_appendI rfl (some 40) rfl (.tmp 25) (.tmp 39) rfl w2 (by rfl) (own_ext (by repeat (first | with_reducible exact Below.refl _ _ | with_reducible assumption | with_reducible refine ExtD ?_ | with_reducible refine ExtDN ?_ | with_reducible refine ExtA ?_ | (with_reducible refine ExtR ?_ ?_; (first | omega | (dsimp only; omega) | (simp; done) | (simp; omega))) | (with_reducible refine ExtS ?_ ?_; (first | omega | (dsimp only; omega) | (simp; done) | (simp; omega))) | with_reducible refine Ext.tr ?_ (by with_reducible assumption))) HO.out) (by exact (by repeat (first | with_reducible exact Below.refl _ _ | with_reducible assumption | with_reducible refine ExtD ?_ | with_reducible refine ExtDN ?_ | with_reducible refine ExtA ?_ | (with_reducible refine ExtR ?_ ?_; (first | omega | (dsimp only; omega) | (simp; done) | (simp; omega))) | (with_reducible refine ExtS ?_ ?_; (first | omega | (dsimp only; omega) | (simp; done) | (simp; omega))) | with_reducible refine Ext.tr ?_ (by with_reducible assumption)))) (by rfl) (rd_newg (.int .i64 (lq * lp)) 2 (by simp)) (by intro u hu; simp at hu; subst hu; rfl) (by omega) _ HQ.out ?_; intro B1 d1 w7 hx7 hown1))
      go_wp2_with fail
      go_roundw
      case rel => exact ⟨k + 1, B1, d1, by go_num, by omega, rfl, by assumption, hown1⟩
      case measure => simp [intOf]; omega
    · obtain rfl : k = n := by omega
      have htk : (worths s.lines).take k = worths s.lines := List.take_of_length_le (Nat.le_of_eq HWL.out)
      have ho2 := ho
      rw [htk] at ho2
      have HP := Lib.hid (Rd.of_own ho2)
      have c2 := BlkE C2.out hx
      clear ho ho2 htk HO e5 e7
      (have a0 : World.cell? wr ⟨w.heap.size, 0, none⟩ = some (.int .i64 s.order) := Blk.cell c2 0; have a1 : World.cell? wr ⟨w.heap.size, 1, none⟩ = some (.int .i64 s.status) := Blk.cell c2 1; have a2 : World.cell? wr ⟨w.heap.size, 2, none⟩ = some (.int .i64 s.prior) := Blk.cell c2 2; have a3 : World.cell? wr ⟨w.heap.size, 3, none⟩ = some (.int .i64 s.cur) := Blk.cell c2 3; have a4 : World.cell? wr ⟨w.heap.size, 4, none⟩ = some (.int .i64 s.tax) := Blk.cell c2 4; have a5 : World.cell? wr ⟨w.heap.size, 5, none⟩ = some (.slice A s.lines.length c) := Blk.cell c2 5; have a6 : World.cell? wr ⟨w.heap.size, 6, none⟩ = some (.int .i64 s.paid) := Blk.cell c2 6; have a7 : World.cell? wr ⟨w.heap.size, 7, none⟩ = some (.int .i64 s.refunded) := Blk.cell c2 7; have a8 : World.cell? wr ⟨w.heap.size, 8, none⟩ = some (.int .i64 s.events) := Blk.cell c2 8; have a9 : World.cell? wr ⟨w.heap.size, 9, none⟩ = some (.int .i64 s.refused) := Blk.cell c2 9; have a10 : World.cell? wr ⟨w.heap.size, 10, none⟩ = some (.int .i64 s.stamp) := Blk.cell c2 10; have a11 : World.cell? wr ⟨w.heap.size, 11, none⟩ = some (.string s.who) := Blk.cell c2 11)
      go_upto_region 12 with (first
        | (go_at_call 16; (with_reducible refine (K1.out _ (HR.out.ext (HX0.out.tr HX.out))).mono ?_); rintro e w4 ⟨rfl, hx4⟩)
        | (go_at_call 15; (with_reducible refine (K3.out _ _ _ (HP.out.ext hx4)).mono ?_); rintro e w5 ⟨A5, c5, rfl, hx5, ho5⟩))
      have R5 := Lib.hid (Rd.of_own ho5)
      have HX5 := Lib.hid (((HX0.out.tr HX.out).tr hx4).tr hx5)
      have g0 : w.heap.size < w5.heap.size := by have := hx4.size; have := hx5.size; have := c2.lt; omega
      clear hx4 hx5 ho5 HX hx hsz C2 c2 a0 a1 a2 a3 a4 a5 a6 a7 a8 a9 a10 a11
      go_wp2_with fail
      go_loopw [8, 9, 52] (fun v8 _ v52 wr => PaR w5 k sl v8 v52 3 wr) (fun _ _ v52 _ => k - (intOf v52).toNat)
      case atStart => exact ⟨0, some ⟨w5.heap.size, 0, none⟩, 0, rfl, by omega, rfl, (by repeat (first | with_reducible exact Below.refl _ _ | with_reducible assumption | with_reducible refine ExtD ?_ | with_reducible refine ExtDN ?_ | with_reducible refine ExtA ?_ | (with_reducible refine ExtR ?_ ?_; (first | omega | (dsimp only; omega) | (simp; done) | (simp; omega))) | (with_reducible refine ExtS ?_ ?_; (first | omega | (dsimp only; omega) | (simp; done) | (simp; omega))) | with_reducible refine Ext.tr ?_ (by with_reducible assumption))), own_new w5 w5.heap.size #[] 3 0 (Nat.le_refl _) (by decide) rfl⟩
      case round =>
        obtain ⟨j, B, d, rfl, hj, rfl, hx, ho⟩ := hrel
        have hsz : w5.heap.size ≤ wr.heap.size := hx.size
        have HO := Lib.hid ho
        have HX2 := Lib.hid hx
        by_cases hjk : j < k
        · obtain ⟨b, o, rfl, hc1⟩ := at_ints (R5.out.ext hx) hjk
          have HQ : Hid (ints (sl.take j) ++ [.int .i64 (sl.getD j 0)] = ints (sl.take (j + 1))) := Lib.hid (by rw [ntake_snoc sl j (by rw [HL.out]; exact hjk), ints_app]; rfl)
          generalize sl.getD j 0 = x at *
          clear ho
          go_wp2_with (at_builtin; go_must (refine wpL_append rfl (.tmp 55) (.tmp 60) 27 rfl w5.heap.size 3 _ 1 8 Tryz.underlying27 el_ints (.slice B j d) _ _ rfl (own_ext (by repeat (first | with_reducible exact Below.refl _ _ | with_reducible assumption | with_reducible refine ExtD ?_ | with_reducible refine ExtDN ?_ | with_reducible refine ExtA ?_ | (with_reducible refine ExtR ?_ ?_; (first | omega | (dsimp only; omega) | (simp; done) | (simp; omega))) | (with_reducible refine ExtS ?_ ?_; (first | omega | (dsimp only; omega) | (simp; done) | (simp; omega))) | with_reducible refine Ext.tr ?_ (by with_reducible assumption))) HO.out) _ _ _ _ rfl (Rd.toN (rd_newg (.int .i64 x) 3 (by simp))) (by intro u hu; simp at hu; subst hu; rfl) _ _ rfl HQ.out (by simp only [maxLen]; omega) (by omega) (by simp; omega) ?_); intro v1 w7 hown1 hg1 _; obtain ⟨B1, d1, rfl⟩ := own_slice hown1)
          go_roundw
          case rel => exact ⟨j + 1, B1, d1, by go_num, by omega, rfl, Ext.grown (by exact (by repeat (first | with_reducible exact Below.refl _ _ | with_reducible assumption | with_reducible refine ExtD ?_ | with_reducible refine ExtDN ?_ | with_reducible refine ExtA ?_ | (with_reducible refine ExtR ?_ ?_; (first | omega | (dsimp only; omega) | (simp; done) | (simp; omega))) | (with_reducible refine ExtS ?_ ?_; (first | omega | (dsimp only; omega) | (simp; done) | (simp; omega))) | with_reducible refine Ext.tr ?_ (by with_reducible assumption)))) hg1 (fun r hr => own_lt HO.out r hr), hown1⟩
          case measure => simp [intOf]; omega
        · obtain rfl : j = k := by omega
          have htk : sl.take j = sl := List.take_of_length_le (Nat.le_of_eq HL.out)
          rw [htk] at ho
          have HP2 := Lib.hid (Rd.of_own ho)
          clear ho
          go_wp2_with fail
          go_ret2
          rw [← HN.out]
          exact ⟨B, d, rfl, HX5.out.tr hx, HP2.out⟩
set_option maxRecDepth 100000 in
set_option maxHeartbeats 4000000 in
theorem rparts_no (s : St) (A : Option Addr) (c : Nat) (w : World) (hr : LsRd w A s.lines) (hn : s.lines.length ≤ 4611686018427387904) (hw : s.who.size ≤ 4611686018427387904) (hv : ¬ (validB s = true ∧ net s.lines ≠ 0)) :
    Calls Tryz.prog 5 #[.agg (stcells s A c)] w fun e w' => e = .returned (.tuple #[.slice none 0 0, .bool false]) ∧ Ext w w' := by
  have HR := Lib.hid hr
  have KV := Lib.hid fun W (h : LsRd W A s.lines) => rvalid_any s A c W h hn hw
  by_cases hv1 : validB s = true
  · have h0 : net s.lines = 0 := by
      rcases Decidable.em (net s.lines = 0) with h | h
      · exact h
      · exact absurd ⟨hv1, h⟩ hv
    obtain ⟨hl, h16, ht⟩ := valid_tax hv1
    have K2 : Hid (∀ W, LsRd W A s.lines → Calls Tryz.prog 14 #[.agg (stcells s A c)] W fun e w' => e = .returned (.int .i64 0) ∧ Ext W w') := Lib.hid fun W h => by
      have := rnet_any s A c W h hl h16
      rw [h0] at this
      exact this
    rw [hv1] at KV
    clear hv hv1 h0 ht hl h16 hn hw hr
    unfold stcells at KV K2 ⊢
    go_enter Tryz.func5, Tryz.ntmps5
    go_wp2_with (first
      | (go_at_call 13; (with_reducible refine (KV.out _ (HR.out.ext (by repeat (first | with_reducible exact Below.refl _ _ | with_reducible assumption | with_reducible refine ExtD ?_ | with_reducible refine ExtDN ?_ | with_reducible refine ExtA ?_ | (with_reducible refine ExtR ?_ ?_; (first | omega | (dsimp only; omega) | (simp; done) | (simp; omega))) | (with_reducible refine ExtS ?_ ?_; (first | omega | (dsimp only; omega) | (simp; done) | (simp; omega))) | with_reducible refine Ext.tr ?_ (by with_reducible assumption))))).mono ?_); rintro e w1 ⟨rfl, hx1⟩; have c2 : Blk w1 w.heap.size 25 (stcells s A c) := BlkE (BlkN rfl) hx1; (have a0 : World.cell? w1 ⟨w.heap.size, 0, none⟩ = some (.int .i64 s.order) := Blk.cell c2 0; have a1 : World.cell? w1 ⟨w.heap.size, 1, none⟩ = some (.int .i64 s.status) := Blk.cell c2 1; have a2 : World.cell? w1 ⟨w.heap.size, 2, none⟩ = some (.int .i64 s.prior) := Blk.cell c2 2; have a3 : World.cell? w1 ⟨w.heap.size, 3, none⟩ = some (.int .i64 s.cur) := Blk.cell c2 3; have a4 : World.cell? w1 ⟨w.heap.size, 4, none⟩ = some (.int .i64 s.tax) := Blk.cell c2 4; have a5 : World.cell? w1 ⟨w.heap.size, 5, none⟩ = some (.slice A s.lines.length c) := Blk.cell c2 5; have a6 : World.cell? w1 ⟨w.heap.size, 6, none⟩ = some (.int .i64 s.paid) := Blk.cell c2 6; have a7 : World.cell? w1 ⟨w.heap.size, 7, none⟩ = some (.int .i64 s.refunded) := Blk.cell c2 7; have a8 : World.cell? w1 ⟨w.heap.size, 8, none⟩ = some (.int .i64 s.events) := Blk.cell c2 8; have a9 : World.cell? w1 ⟨w.heap.size, 9, none⟩ = some (.int .i64 s.refused) := Blk.cell c2 9; have a10 : World.cell? w1 ⟨w.heap.size, 10, none⟩ = some (.int .i64 s.stamp) := Blk.cell c2 10; have a11 : World.cell? w1 ⟨w.heap.size, 11, none⟩ = some (.string s.who) := Blk.cell c2 11))
      | (go_at_call 14; (with_reducible refine (K2.out _ (HR.out.ext (by repeat (first | with_reducible exact Below.refl _ _ | with_reducible assumption | with_reducible refine ExtD ?_ | with_reducible refine ExtDN ?_ | with_reducible refine ExtA ?_ | (with_reducible refine ExtR ?_ ?_; (first | omega | (dsimp only; omega) | (simp; done) | (simp; omega))) | (with_reducible refine ExtS ?_ ?_; (first | omega | (dsimp only; omega) | (simp; done) | (simp; omega))) | with_reducible refine Ext.tr ?_ (by with_reducible assumption))))).mono ?_); rintro e w2 ⟨rfl, hx2⟩))
    go_ret2
    exact ⟨rfl, (by repeat (first | with_reducible exact Below.refl _ _ | with_reducible assumption | with_reducible refine ExtD ?_ | with_reducible refine ExtDN ?_ | with_reducible refine ExtA ?_ | (with_reducible refine ExtR ?_ ?_; (first | omega | (dsimp only; omega) | (simp; done) | (simp; omega))) | (with_reducible refine ExtS ?_ ?_; (first | omega | (dsimp only; omega) | (simp; done) | (simp; omega))) | with_reducible refine Ext.tr ?_ (by with_reducible assumption)))⟩
  · have hf : validB s = false := by simpa using hv1
    rw [hf] at KV
    clear hv hv1 hf hn hw hr
    unfold stcells at KV ⊢
    go_enter Tryz.func5, Tryz.ntmps5
    go_wp2_with (go_at_call 13; (with_reducible refine (KV.out _ (HR.out.ext (by repeat (first | with_reducible exact Below.refl _ _ | with_reducible assumption | with_reducible refine ExtD ?_ | with_reducible refine ExtDN ?_ | with_reducible refine ExtA ?_ | (with_reducible refine ExtR ?_ ?_; (first | omega | (dsimp only; omega) | (simp; done) | (simp; omega))) | (with_reducible refine ExtS ?_ ?_; (first | omega | (dsimp only; omega) | (simp; done) | (simp; omega))) | with_reducible refine Ext.tr ?_ (by with_reducible assumption))))).mono ?_); rintro e w1 ⟨rfl, hx1⟩)
    go_ret2
    exact ⟨rfl, (by repeat (first | with_reducible exact Below.refl _ _ | with_reducible assumption | with_reducible refine ExtD ?_ | with_reducible refine ExtDN ?_ | with_reducible refine ExtA ?_ | (with_reducible refine ExtR ?_ ?_; (first | omega | (dsimp only; omega) | (simp; done) | (simp; omega))) | (with_reducible refine ExtS ?_ ?_; (first | omega | (dsimp only; omega) | (simp; done) | (simp; omega))) | with_reducible refine Ext.tr ?_ (by with_reducible assumption)))⟩
end Go.Proofs.YtjomgppbialeoaaGreat
