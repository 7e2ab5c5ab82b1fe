/-
  The walk of the reference's Decode of manifests.
-/
import Derived.Test.YtjajbbgebblalaaGreatDoorManE
import Derived.Test.YtjajbbgebblalaaGreatDoorFrmD
import Derived.Test.YtjajbbgebblalaaGreatDoorHand
namespace Go.Proofs.YtjajbbgebblalaaGreatDoor
open Go.RowKit
set_option linter.unusedVariables false
set_option linter.unusedSimpArgs false
/-- What Decode answers, in memory. -/
def MdPost (w : World) (r : Mf × Nat) (e : Ending) (w' : World) : Prop :=
  ∃ A c, e = .returned (.tuple #[.agg (mfcells r.1 A c), .int .i64 (r.2 : Nat)]) ∧ Ext w w' ∧ OwnSg w' w.heap.size A r.1.segs c
theorem md_bad {w w' : World} {r : Mf × Nat} {e : Ending} (h : r = (noMf, 80)) (he : e = .returned (.tuple #[.agg (mfcells noMf none 0), .int .i64 80])) (hx : Ext w w') : MdPost w r e w' := by
  subst h
  exact ⟨none, 0, he, hx, World.ownsRow_nil _ _ _ _⟩
theorem manR_def (b : List UInt8) : manR b = (if (fdec b).2.2 ≠ 0 ∨ (fdec b).2.1 ≠ b.length then (noMf, 80)
  else if (vsdec (fdec b).1.2.2 1028).2.2 ≠ 0 ∨ (vsdec (fdec b).1.2.2 1028).1.length < 4 ∨ ∃ u ∈ (vsdec (fdec b).1.2.2 1028).1, 2199023255552 < u then (noMf, 80)
  else if (manE (manOf (fdec b).1.2.1 (vsdec (fdec b).1.2.2 1028).1)).2 ≠ 0 ∨ (manE (manOf (fdec b).1.2.1 (vsdec (fdec b).1.2.2 1028).1)).1 ≠ b then (noMf, 80)
  else (manOf (fdec b).1.2.1 (vsdec (fdec b).1.2.2 1028).1, 0)) := rfl
theorem alloc_mf (w : World) : (Instr.alloc 25 true (.tuple #[])).run Tryz.prog w = .ok (.pointer (some ⟨w.heap.size, 0, none⟩)) (w.alloc (.cells #[.int .i64 0, .int .i64 0, .int .i64 0, .int .i64 0, .int .i64 0, .slice none 0 0] 25)) := by kernel_rfl
theorem step_store1 {w : World} {ops : Array Oper} {o : Oper} {a : Act} {K : Act → World → Prop} {Q : Exit → Act → World → Prop} {E : Prop} (hgd : o.guard = none) (d : Option Tmp) (hd : o.dst = d) (x y : Operand) (ho : o.op = .store 23 x y) {g i n c : Nat} {B : Option Addr} {old : Value}
    (hx : a.eval x = .pointer (some ⟨g, i, none⟩)) (hy : a.eval y = .slice B n c) (hc : w.cell? ⟨g, i, none⟩ = some old) (hf : w.frozen? ⟨g, i, none⟩ = false) (hK : K (a.put d undef) (w.setCell ⟨g, i, none⟩ (.slice B n c))) : if Region.wanted o (yielded ops a.tmps) = true then Oper.wp Tryz.prog o a w K Q else E := by
  subst hd
  have hwt : Region.wanted o (yielded ops a.tmps) = true := by simp [Region.wanted, hgd]
  rw [if_pos hwt]
  have hr : (execOp a.eval o).run Tryz.prog w = .ok .skip (w.setCell ⟨g, i, none⟩ (.slice B n c)) := by
    unfold execOp
    simp only [ho, hx, hy]
    go_simp
  unfold Oper.wp
  rw [hr]
  exact hK
theorem segsOf_len (us : List Nat) : (segsOf us).length = us.length / 4 := by
  match us with
  | [] => rfl
  | [_] => simp [segsOf]
  | [_, _] => simp [segsOf]
  | [_, _, _] => simp [segsOf]
  | a :: b :: c :: d :: r =>
    have ih := segsOf_len r
    show (segsOf r).length + 1 = (r.length + 1 + 1 + 1 + 1) / 4
    omega
theorem segsOf_get (us : List Nat) (j : Nat) (h : j < (segsOf us).length) : (segsOf us)[j]? = some ⟨us.getD (4 * j) 0, us.getD (4 * j + 1) 0, us.getD (4 * j + 2) 0, us.getD (4 * j + 3) 0⟩ := by
  match us, j with
  | [], _ => simp [segsOf] at h
  | [_], _ => simp [segsOf] at h
  | [_, _], _ => simp [segsOf] at h
  | [_, _, _], _ => simp [segsOf] at h
  | a :: b :: c :: d :: r, 0 => rfl
  | a :: b :: c :: d :: r, j + 1 =>
    have ih := segsOf_get r j (by have : (segsOf (a :: b :: c :: d :: r)).length = (segsOf r).length + 1 := rfl; omega)
    show (segsOf r)[j]? = _
    rw [ih]
    simp only [List.getD_eq_getElem?_getD, show 4 * (j + 1) = 4 * j + 1 + 1 + 1 + 1 by omega, show 4 * j + 1 + 1 + 1 + 1 + 1 = 4 * j + 1 + 1 + 1 + 1 + 1 from rfl, List.getElem?_cons_succ]
def RsR (W0 : World) (s a0 a1 a2 a3 g8 : Nat) (SS : List Sg) (v11 : Value) (wr : World) : Prop :=
  ∃ (k : Nat) (B : Option Addr) (d : Nat), v11 = .int .i64 (4 + 4 * k : Nat) ∧ k ≤ SS.length ∧ Ext W0 wr ∧ Blk wr g8 25 #[.int .i64 (s : Nat), .int .i64 (a0 : Nat), .int .i64 (a1 : Nat), .int .i64 (a2 : Nat), .int .i64 (a3 : Nat), .slice B k d] ∧ OwnSg wr W0.heap.size B (SS.take k) d
def RdR (W0 : World) (n : Nat) (c45 : Value) (us : List Nat) (wr : World) : Prop := ∃ k : Nat, c45 = .int .i64 (k : Nat) ∧ k ≤ n ∧ (∀ j, j < k → us.getD j 0 ≤ 2199023255552) ∧ Ext W0 wr
set_option maxRecDepth 100000 in
set_option maxHeartbeats 8000000 in
theorem mrdec_any (A : Option Addr) (n c : Nat) (l : List UInt8) (w : World) (hr : Rd w A n (u8s l)) (hnc : n ≤ c) (hn : n ≤ maxLen) :
    Calls Tryz.prog 23 #[.slice A n c] w (MdPost w (manD l)) := by
  have hlen : l.length = n := by have := hr.1; rw [u8s_len] at this; exact this
  have HR := Lib.hid hr
  have KD := Lib.hid fun W (hx : Ext w W) => rfdec_any A n c l W (hr.ext hx) hnc hn
  have HBi : Hid ((fdec l).2.2 = 0 → (fdec l).1.2.2.length ≤ 16384) := Lib.hid fun h => by
    obtain ⟨_, _, _, _, _, _, hb⟩ := fdec_inv (b := l) (k := (fdec l).1.1) (s := (fdec l).1.2.1) (body := (fdec l).1.2.2) (n := (fdec l).2.1) (by rw [← h])
    exact hb
  rw [← manR_eq]
  have hR := manR_def l
  rw [hlen] at hR
  generalize manR l = RR at *
  unfold DcPost at KD
  generalize fdec l = r at *
  obtain ⟨⟨k0, s, body⟩, sz, E⟩ := r
  dsimp only at KD hR HBi
  unfold frcells at KD
  clear hr
  obtain ⟨m0, hm0⟩ : ∃ m0, m0 = body.length := ⟨_, rfl⟩
  rw [← hm0] at KD HBi
  have mixed : Tryz.prog.follows Departure.mixedOrders = true := by kernel_rfl
  by_cases he : E = 0
  case neg =>
    rw [if_pos (.inl he)] at hR
    have hd := Lib.hid hR
    have u1 : ((E : Int) == 0) = false := by simp; omega
    have u1b : ((E : Int) != 0) = true := by simp; omega
    clear hR HBi
    go_enter Tryz.func23, Tryz.ntmps23
    go_wp2_with (first
      | (go_at_call 71; (with_reducible refine (KD.out _ (by repeat (first | with_reducible exact Below.refl _ _ | with_reducible assumption | with_reducible refine ExtD ?_ | with_reducible refine ExtDN ?_ | with_reducible refine ExtA ?_ | (with_reducible refine ExtR ?_ ?_; (first | omega | (dsimp only; omega) | (simp; done) | (simp; omega))) | (with_reducible refine ExtS ?_ ?_; (first | omega | (dsimp only; omega) | (simp; done) | (simp; omega))) | with_reducible refine Ext.tr ?_ (by with_reducible assumption)))).mono ?_); rintro e w1 ⟨A1, c1, rfl, hx1, ho1, hc1⟩; have b2 : Blk w1 w.heap.size 25 #[.int .i64 0, .int .i64 0, .int .i64 0, .int .i64 0, .int .i64 0, .slice none 0 0] := BlkE (BlkN rfl) hx1; have hs1 : w.heap.size ≤ w1.heap.size := Nat.le_of_lt b2.lt)
      | (with_reducible refine wpL_store_row rfl 119 (.tmp 4) (.tmp 16) rfl _ 119 _ _ rfl rfl (BlkN rfl) (three_size.trans three_size.symm) (three_one rfl rfl rfl) 3 fr_wide three_size ?_)
      | (with_reducible refine wpL_store_row rfl 25 (.tmp 2) (.tmp 27) rfl _ 25 _ _ rfl rfl (BlkR (Nat.ne_of_lt b2.lt) (BlkA b2)) ((mf_size' _ _ _ _ _ _ _ _).trans (mf_size' _ _ _ _ _ _ _ _).symm) (mf_one' _ _ _ _ _ _ _ _) 6 mf_wide (mf_size' _ _ _ _ _ _ _ _) ?_))
    ((try simp only [Exit.inBlock, Exit.then]); refine bodyPost_ret (v := .tuple #[.agg (mfcells noMf none 0), .int .i64 80]) (res_row_t rfl _ w.heap.size 25 _ 6 _ rfl rfl ?_ mf_wide rfl) rfl ?_)
    · exact Blk.setRow_ (BlkR (Nat.ne_of_lt b2.lt) (BlkA b2))
    · exact md_bad hd.out rfl (by repeat (first | with_reducible exact Below.refl _ _ | with_reducible assumption | with_reducible refine ExtD ?_ | with_reducible refine ExtDN ?_ | with_reducible refine ExtA ?_ | (with_reducible refine ExtR ?_ ?_; (first | omega | (dsimp only; omega) | (simp; done) | (simp; omega))) | (with_reducible refine ExtS ?_ ?_; (first | omega | (dsimp only; omega) | (simp; done) | (simp; omega))) | with_reducible refine Ext.tr ?_ (by with_reducible assumption)))
  subst he
  have hb0 := HBi.out rfl
  by_cases hz : sz = n
  case neg =>
    rw [if_pos (.inr hz)] at hR
    have hd := Lib.hid hR
    have u1 : (sz == n) = false := by simp; omega
    have u1b : (sz != n) = true := by simp; omega
    clear hR HBi
    go_enter Tryz.func23, Tryz.ntmps23
    go_wp2_with (first
      | (go_at_call 71; (with_reducible refine (KD.out _ (by repeat (first | with_reducible exact Below.refl _ _ | with_reducible assumption | with_reducible refine ExtD ?_ | with_reducible refine ExtDN ?_ | with_reducible refine ExtA ?_ | (with_reducible refine ExtR ?_ ?_; (first | omega | (dsimp only; omega) | (simp; done) | (simp; omega))) | (with_reducible refine ExtS ?_ ?_; (first | omega | (dsimp only; omega) | (simp; done) | (simp; omega))) | with_reducible refine Ext.tr ?_ (by with_reducible assumption)))).mono ?_); rintro e w1 ⟨A1, c1, rfl, hx1, ho1, hc1⟩; have b2 : Blk w1 w.heap.size 25 #[.int .i64 0, .int .i64 0, .int .i64 0, .int .i64 0, .int .i64 0, .slice none 0 0] := BlkE (BlkN rfl) hx1; have hs1 : w.heap.size ≤ w1.heap.size := Nat.le_of_lt b2.lt)
      | (with_reducible refine wpL_store_row rfl 119 (.tmp 4) (.tmp 16) rfl _ 119 _ _ rfl rfl (BlkN rfl) (three_size.trans three_size.symm) (three_one rfl rfl rfl) 3 fr_wide three_size ?_)
      | (with_reducible refine wpL_store_row rfl 25 (.tmp 2) (.tmp 27) rfl _ 25 _ _ rfl rfl (BlkR (Nat.ne_of_lt b2.lt) (BlkA b2)) ((mf_size' _ _ _ _ _ _ _ _).trans (mf_size' _ _ _ _ _ _ _ _).symm) (mf_one' _ _ _ _ _ _ _ _) 6 mf_wide (mf_size' _ _ _ _ _ _ _ _) ?_))
    ((try simp only [Exit.inBlock, Exit.then]); refine bodyPost_ret (v := .tuple #[.agg (mfcells noMf none 0), .int .i64 80]) (res_row_t rfl _ w.heap.size 25 _ 6 _ rfl rfl ?_ mf_wide rfl) rfl ?_)
    · exact Blk.setRow_ (BlkR (Nat.ne_of_lt b2.lt) (BlkA b2))
    · exact md_bad hd.out rfl (by repeat (first | with_reducible exact Below.refl _ _ | with_reducible assumption | with_reducible refine ExtD ?_ | with_reducible refine ExtDN ?_ | with_reducible refine ExtA ?_ | (with_reducible refine ExtR ?_ ?_; (first | omega | (dsimp only; omega) | (simp; done) | (simp; omega))) | (with_reducible refine ExtS ?_ ?_; (first | omega | (dsimp only; omega) | (simp; done) | (simp; omega))) | with_reducible refine Ext.tr ?_ (by with_reducible assumption)))
  subst hz
  rw [if_neg (by simp)] at hR
  have hvi : (vsdec body 1028).2.2 = 0 → (vsdec body 1028).1.length ≤ 1028 ∧ ∀ u ∈ (vsdec body 1028).1, u < 18446744073709551616 := fun h => by
    obtain ⟨_, _, _, h3, h4⟩ := vsdec_inv (b := body) (most := 1028) (m := (vsdec body 1028).2.1) (us := (vsdec body 1028).1) (by rw [← h])
    exact ⟨h3, h4⟩
  have HVi := Lib.hid hvi
  have KV : Hid (∀ A1 c1 W, Rd W A1 m0 (u8s body) → m0 ≤ c1 → Calls Tryz.prog 72 #[.slice A1 m0 c1, .int .i64 1028] W (VsPost W (vsdec body 1028))) := Lib.hid fun A1 c1 W h hc => rvsdec_any A1 m0 c1 body 1028 W h hc (by omega) (by decide) (by decide)
  unfold VsPost at KV
  generalize vsdec body 1028 = r2 at *
  obtain ⟨us, at_, E2⟩ := r2
  dsimp only at KV HVi hR
  have HMb := Lib.hid hm0
  obtain ⟨n2, hn2⟩ : ∃ n2, n2 = us.length := ⟨_, rfl⟩
  rw [← hn2] at KV HVi hR
  have Hn2 := Lib.hid hn2
  have HRR := Lib.hid hR
  clear hvi hm0 HBi hn2 hR
  go_enter Tryz.func23, Tryz.ntmps23
  go_upto_region 2 with (first
    | (go_at_call 71; (with_reducible refine (KD.out _ (by repeat (first | with_reducible exact Below.refl _ _ | with_reducible assumption | with_reducible refine ExtD ?_ | with_reducible refine ExtDN ?_ | with_reducible refine ExtA ?_ | (with_reducible refine ExtR ?_ ?_; (first | omega | (dsimp only; omega) | (simp; done) | (simp; omega))) | (with_reducible refine ExtS ?_ ?_; (first | omega | (dsimp only; omega) | (simp; done) | (simp; omega))) | with_reducible refine Ext.tr ?_ (by with_reducible assumption)))).mono ?_); rintro e w1 ⟨A1, c1, rfl, hx1, ho1, hc1⟩; have b2 : Blk w1 w.heap.size 25 #[.int .i64 0, .int .i64 0, .int .i64 0, .int .i64 0, .int .i64 0, .slice none 0 0] := BlkE (BlkN rfl) hx1; have hs1 : w.heap.size ≤ w1.heap.size := Nat.le_of_lt b2.lt)
    | (with_reducible refine wpL_store_row rfl 119 (.tmp 4) (.tmp 16) rfl _ 119 _ _ rfl rfl (BlkN rfl) (three_size.trans three_size.symm) (three_one rfl rfl rfl) 3 fr_wide three_size ?_))
  have hs1 : w.heap.size < w1.heap.size := b2.lt
  have b6 : Blk ((w1.alloc (.cells #[.int .i64 0, .int .i64 0, .slice none 0 0] 119)).setRow w1.heap.size #[.int .i64 (k0 : Nat), .int .i64 (s : Nat), .slice A1 m0 c1]) w1.heap.size 119 #[.int .i64 (k0 : Nat), .int .i64 (s : Nat), .slice A1 m0 c1] := Blk.setRow_ (BlkN rfl)
  have b4 : Blk ((w1.alloc (.cells #[.int .i64 0, .int .i64 0, .slice none 0 0] 119)).setRow w1.heap.size #[.int .i64 (k0 : Nat), .int .i64 (s : Nat), .slice A1 m0 c1]) w.heap.size 25 #[.int .i64 0, .int .i64 0, .int .i64 0, .int .i64 0, .int .i64 0, .slice none 0 0] := BlkR (Nat.ne_of_lt b2.lt) (BlkA b2)
  have hw1 : Ext w w1 := (ExtA (Ext.rfl' w)).tr hx1
  have hX : Ext w ((w1.alloc (.cells #[.int .i64 0, .int .i64 0, .slice none 0 0] 119)).setRow w1.heap.size #[.int .i64 (k0 : Nat), .int .i64 (s : Nat), .slice A1 m0 c1]) := ExtR (Nat.le_of_lt hs1) (ExtA hw1)
  have ho : ((w1.alloc (.cells #[.int .i64 0, .int .i64 0, .slice none 0 0] 119)).setRow w1.heap.size #[.int .i64 (k0 : Nat), .int .i64 (s : Nat), .slice A1 m0 c1]).ownsRow w.heap.size 5 1 (.slice A1 m0 c1) m0 (u8s body) := own_row_apart (World.ownsRow.alloc (own_base ho1 (ExtA (Ext.rfl' w)).size) _) (BlkN rfl)
  generalize (w1.alloc (.cells #[.int .i64 0, .int .i64 0, .slice none 0 0] 119)).setRow w1.heap.size #[.int .i64 (k0 : Nat), .int .i64 (s : Nat), .slice A1 m0 c1] = W2 at *
  have hg : w.heap.size ≠ w1.heap.size := by omega
  generalize w1.heap.size = g6 at *
  have f2 : W2.cell? ⟨g6, 2, none⟩ = some (.slice A1 m0 c1) := b6.cell 2
  have RB := Lib.hid (rd_own ho)
  have hc1' := hc1
  clear hx1 ho1 b2 hw1 ho
  go_upto_region 5 with (go_at_call 72; (with_reducible refine (KV.out _ _ _ RB.out hc1').mono ?_); rintro e w3 ⟨A3, c3, rfl, hx3, ho3⟩)
  have B4 := Lib.hid (BlkE b4 hx3)
  have B6 := Lib.hid (BlkE b6 hx3)
  have HX3 := Lib.hid (hX.tr hx3)
  have hz3 : W2.heap.size ≤ w3.heap.size := hx3.size
  have hz2 : w.heap.size ≤ W2.heap.size := hX.size
  have RU := Lib.hid (Rd.of_own ho3)
  have hg6 : g6 < w3.heap.size := B6.out.lt
  clear hx3 ho3 b4 b6 hX f2
  by_cases he2 : E2 = 0
  case neg =>
    have hR := HRR.out
    rw [if_pos (.inl he2)] at hR
    have hd := Lib.hid hR
    have u2 : ((E2 : Int) == 0) = false := by simp; omega
    have u2b : ((E2 : Int) != 0) = true := by simp; omega
    have b4 := B4.out
    have hX := HX3.out
    clear hR
    go_wp2_with (with_reducible refine wpL_store_row rfl 25 (.tmp 2) (.tmp 42) rfl _ 25 _ _ rfl rfl b4 ((mf_size' _ _ _ _ _ _ _ _).trans (mf_size' _ _ _ _ _ _ _ _).symm) (mf_one' _ _ _ _ _ _ _ _) 6 mf_wide (mf_size' _ _ _ _ _ _ _ _) ?_)
    ((try simp only [Exit.inBlock, Exit.then]); refine bodyPost_ret (v := .tuple #[.agg (mfcells noMf none 0), .int .i64 80]) (res_row_t rfl _ w.heap.size 25 _ 6 _ rfl rfl ?_ mf_wide rfl) rfl ?_)
    · exact Blk.setRow_ b4
    · exact md_bad hd.out rfl (by repeat (first | with_reducible exact Below.refl _ _ | with_reducible assumption | with_reducible refine ExtD ?_ | with_reducible refine ExtDN ?_ | with_reducible refine ExtA ?_ | (with_reducible refine ExtR ?_ ?_; (first | omega | (dsimp only; omega) | (simp; done) | (simp; omega))) | (with_reducible refine ExtS ?_ ?_; (first | omega | (dsimp only; omega) | (simp; done) | (simp; omega))) | with_reducible refine Ext.tr ?_ (by with_reducible assumption)))
  subst he2
  obtain ⟨hu1, hu2⟩ := HVi.out rfl
  by_cases h4 : n2 < 4
  · have hR := HRR.out
    rw [if_pos (.inr (.inl h4))] at hR
    have hd := Lib.hid hR
    have u3 : decide ((n2 : Int) < 4) = true := by simp; omega
    have b4 := B4.out
    have hX := HX3.out
    clear hR
    go_wp2_with (with_reducible refine wpL_store_row rfl 25 (.tmp 2) (.tmp 42) rfl _ 25 _ _ rfl rfl b4 ((mf_size' _ _ _ _ _ _ _ _).trans (mf_size' _ _ _ _ _ _ _ _).symm) (mf_one' _ _ _ _ _ _ _ _) 6 mf_wide (mf_size' _ _ _ _ _ _ _ _) ?_)
    ((try simp only [Exit.inBlock, Exit.then]); refine bodyPost_ret (v := .tuple #[.agg (mfcells noMf none 0), .int .i64 80]) (res_row_t rfl _ w.heap.size 25 _ 6 _ rfl rfl ?_ mf_wide rfl) rfl ?_)
    · exact Blk.setRow_ b4
    · exact md_bad hd.out rfl (by repeat (first | with_reducible exact Below.refl _ _ | with_reducible assumption | with_reducible refine ExtD ?_ | with_reducible refine ExtDN ?_ | with_reducible refine ExtA ?_ | (with_reducible refine ExtR ?_ ?_; (first | omega | (dsimp only; omega) | (simp; done) | (simp; omega))) | (with_reducible refine ExtS ?_ ?_; (first | omega | (dsimp only; omega) | (simp; done) | (simp; omega))) | with_reducible refine Ext.tr ?_ (by with_reducible assumption)))
  have u3 : decide ((n2 : Int) < 4) = false := by simp; omega
  go_wp2_with fail
  go_loopw [9, 45] (fun _ c45 wr => RdR w3 n2 c45 us wr) (fun _ c45 _ => n2 - (intOf c45).toNat)
  case atStart => exact ⟨0, rfl, by omega, fun j h => by omega, Ext.rfl' _⟩
  case round =>
    obtain ⟨k, rfl, hk, hall, hx⟩ := hrel
    by_cases hlt : k < n2
    · obtain ⟨b, o, rfl, hc⟩ := at_u64 (RU.out.ext hx) hlt
      have hmem : us.getD k 0 ∈ us := by
        rw [List.getD_eq_getElem?_getD, List.getElem?_eq_getElem (by have := Hn2.out; omega)]
        exact List.getElem_mem _
      have hu64 := hu2 _ hmem
      by_cases hbig : 2199023255552 < us.getD k 0
      · have hR := HRR.out
        rw [if_pos (.inr (.inr ⟨_, hmem, hbig⟩))] at hR
        have hd := Lib.hid hR
        have b4 := BlkE B4.out hx
        have hX := HX3.out.tr hx
        clear hR hmem
        generalize us.getD k 0 = u at *
        have u5 : decide ((2199023255552 : Int) < (u : Int)) = true := by simp; omega
        go_wp2_with (with_reducible refine wpL_store_row rfl 25 (.tmp 2) (.tmp 53) rfl _ 25 _ _ rfl rfl b4 ((mf_size' _ _ _ _ _ _ _ _).trans (mf_size' _ _ _ _ _ _ _ _).symm) (mf_one' _ _ _ _ _ _ _ _) 6 mf_wide (mf_size' _ _ _ _ _ _ _ _) ?_)
        ((try simp only [Exit.inBlock, Exit.then]); refine bodyPost_ret (v := .tuple #[.agg (mfcells noMf none 0), .int .i64 80]) (res_row_t rfl _ w.heap.size 25 _ 6 _ rfl rfl ?_ mf_wide rfl) rfl ?_)
        · exact Blk.setRow_ b4
        · exact md_bad hd.out rfl (by repeat (first | with_reducible exact Below.refl _ _ | with_reducible assumption | with_reducible refine ExtD ?_ | with_reducible refine ExtDN ?_ | with_reducible refine ExtA ?_ | (with_reducible refine ExtR ?_ ?_; (first | omega | (dsimp only; omega) | (simp; done) | (simp; omega))) | (with_reducible refine ExtS ?_ ?_; (first | omega | (dsimp only; omega) | (simp; done) | (simp; omega))) | with_reducible refine Ext.tr ?_ (by with_reducible assumption)))
      · have Hall := Lib.hid hall
        have hbig' : us.getD k 0 ≤ 2199023255552 := by omega
        have Hbig := Lib.hid hbig'
        clear hall hmem hbig'
        obtain ⟨u, hu⟩ : ∃ u, u = us.getD k 0 := ⟨_, rfl⟩
        rw [← hu] at hc hbig hu64 Hbig
        have Hu := Lib.hid hu
        clear hu
        have u5 : decide ((2199023255552 : Int) < (u : Int)) = false := by simp; omega
        go_wp2_with fail
        go_roundw
        case rel => exact ⟨k + 1, by go_num, by omega, fun j hj => by
          by_cases h : j = k
          · rw [h, ← Hu.out]; exact Hbig.out
          · exact Hall.out j (by omega), (by repeat (first | with_reducible exact Below.refl _ _ | with_reducible assumption | with_reducible refine ExtD ?_ | with_reducible refine ExtDN ?_ | with_reducible refine ExtA ?_ | (with_reducible refine ExtR ?_ ?_; (first | omega | (dsimp only; omega) | (simp; done) | (simp; omega))) | (with_reducible refine ExtS ?_ ?_; (first | omega | (dsimp only; omega) | (simp; done) | (simp; omega))) | with_reducible refine Ext.tr ?_ (by with_reducible assumption)))⟩
        case measure => simp [intOf]; omega
    · obtain rfl : k = n2 := by omega
      have hno : ¬ ∃ u ∈ us, 2199023255552 < u := by
        rintro ⟨u, hu, hb⟩
        obtain ⟨j, hj, rfl⟩ := List.mem_iff_getElem.1 hu
        have := hall j (by have := Hn2.out; omega)
        rw [List.getD_eq_getElem?_getD, List.getElem?_eq_getElem hj] at this
        simp at this
        omega
      have hR := HRR.out
      rw [if_neg (by rintro (h | h | h); exact h rfl; exact h4 h; exact hno h)] at hR
      have HR2 := Lib.hid hR
      have hsm : ∀ j, us.getD j 0 ≤ 2199023255552 := fun j => by
        by_cases hj : j < k
        · exact hall j hj
        · rw [List.getD_eq_getElem?_getD, List.getElem?_eq_none (by have := Hn2.out; omega)]; simp
      have HSM := Lib.hid hsm
      have hB6 := BlkE B6.out hx
      have hs1' : wr.cell? ⟨g6, 1, none⟩ = some (.int .i64 (s : Nat)) := hB6.cell 1
      have hg6' : g6 < wr.heap.size := hB6.lt
      have hX := HX3.out.tr hx
      have B4r := Lib.hid (BlkE B4.out hx)
      have RUr := Lib.hid (RU.out.ext hx)
      obtain ⟨b, o, rfl, d0⟩ := at_u64 RUr.out (show 0 < k by omega)
      obtain ⟨_, _, hA1, d1⟩ := at_u64 RUr.out (show 1 < k by omega)
      injection hA1 with hA1
      injection hA1 with hb ho
      subst hb ho
      obtain ⟨_, _, hA1, d2⟩ := at_u64 RUr.out (show 2 < k by omega)
      injection hA1 with hA1
      injection hA1 with hb ho
      subst hb ho
      obtain ⟨_, _, hA1, d3⟩ := at_u64 RUr.out (show 3 < k by omega)
      injection hA1 with hA1
      injection hA1 with hb ho
      subst hb ho
      have s0 := hsm 0
      have s1 := hsm 1
      have s2 := hsm 2
      have s3 := hsm 3
      obtain ⟨a0, h0⟩ : ∃ a, a = us.getD 0 0 := ⟨_, rfl⟩
      obtain ⟨a1, h1⟩ : ∃ a, a = us.getD 1 0 := ⟨_, rfl⟩
      obtain ⟨a2, h2⟩ : ∃ a, a = us.getD 2 0 := ⟨_, rfl⟩
      obtain ⟨a3, h3⟩ : ∃ a, a = us.getD 3 0 := ⟨_, rfl⟩
      rw [← h0] at d0 s0
      rw [← h1] at d1 s1
      rw [← h2] at d2 s2
      rw [← h3] at d3 s3
      rw [Nat.add_zero] at d0
      have Hman : Hid (manOf s us = ⟨(s : Int), (a0 : Int), (a1 : Int), (a2 : Int), (a3 : Int), segsOf (us.drop 4)⟩) := Lib.hid (by unfold manOf; rw [h0, h1, h2, h3])
      have c0 : IntKind.i64.wrap (a0 : Int) = (a0 : Int) := wraps_i64 _ (by omega) (by omega)
      have c1w : IntKind.i64.wrap (a1 : Int) = (a1 : Int) := wraps_i64 _ (by omega) (by omega)
      have c2 : IntKind.i64.wrap (a2 : Int) = (a2 : Int) := wraps_i64 _ (by omega) (by omega)
      have c3w : IntKind.i64.wrap (a3 : Int) = (a3 : Int) := wraps_i64 _ (by omega) (by omega)
      have hz4 : w.heap.size ≤ wr.heap.size := hX.size
      have f1A := hs1'
      have f2A := d0
      have f3A := d1
      have f4A := d2
      have f5A := d3
      have t4 : (0 : Int) < (k : Int) := by omega
      have HX := Lib.hid hX
      have t4n : 0 < k := by omega
      have t4z : k ≠ 0 := by omega
      have t5 : (1 : Int) < (k : Int) := by omega
      have t6 : (2 : Int) < (k : Int) := by omega
      have t7 : (3 : Int) < (k : Int) := by omega
      clear hR hall hno hsm h0 h1 h2 h3 hs1' d0 d1 d2 d3 hB6 hx
      go_upto_region 13 with fail
      go_cut [10] (fun v10 wc => ∃ g8, v10 = .pointer (some ⟨g8, 0, none⟩) ∧ wr.heap.size ≤ g8 ∧ Ext wr wc ∧ Blk wc g8 25 #[.int .i64 (s : Nat), .int .i64 (a0 : Nat), .int .i64 (a1 : Nat), .int .i64 (a2 : Nat), .int .i64 (a3 : Nat), .slice none 0 0])
      case first =>
       clear KD KV RB RU HVi HRR HR2 HSM Hman RUr B4r B4 B6 HX3 HX HMb Hn2
      -- REGION13
       refine wp_region_held_drew (S := fun w' => Ext wr w') (by kernel_rfl) (ExtD (Ext.rfl' _)) (fun hS => ?_)
       refine takeD (some 55) (i := 0) (oi := ⟨some 55, _, _, _, _, _⟩) (v := .pointer (some ⟨g6, 1, none⟩)) rfl rfl (by kernel_rfl) (by kernel_rfl) (by kernel_rfl) (fun _ _ _ h => h) (Or.inl ⟨by kernel_rfl, fun w hw => by go_simp⟩) hS ?_; (try simp only [Act.put, List.setIfInBounds_toArray, List.set_cons_zero, List.set_cons_succ])
       refine takeD (some 56) (i := 1) (oi := ⟨some 56, _, _, _, _, _⟩) (v := .int .i64 (s : Nat)) rfl rfl (by kernel_rfl) (by kernel_rfl) (by kernel_rfl) (fun _ _ _ h => h) (Or.inl ⟨by kernel_rfl, fun w hw => by have hc := Ext.cell hw f1A; go_simp⟩) hS ?_; (try simp only [Act.put, List.setIfInBounds_toArray, List.set_cons_zero, List.set_cons_succ])
       refine takeD (some 57) (i := 2) (oi := ⟨some 57, _, _, _, _, _⟩) (v := .slice (some ⟨b, o, none⟩) k c3) rfl rfl (by kernel_rfl) (by kernel_rfl) (by kernel_rfl) (fun _ _ _ h => h) (Or.inl ⟨by kernel_rfl, fun w hw => by go_simp⟩) hS ?_; (try simp only [Act.put, List.setIfInBounds_toArray, List.set_cons_zero, List.set_cons_succ])
       refine takeD (some 58) (i := 3) (oi := ⟨some 58, _, _, _, _, _⟩) (v := .pointer (some ⟨b, o, none⟩)) rfl rfl (by kernel_rfl) (by kernel_rfl) (by kernel_rfl) (fun _ _ _ h => h) (Or.inl ⟨by kernel_rfl, fun w hw => by go_simp⟩) hS ?_; (try simp only [Act.put, List.setIfInBounds_toArray, List.set_cons_zero, List.set_cons_succ])
       refine takeD (some 59) (i := 4) (oi := ⟨some 59, _, _, _, _, _⟩) (v := .int .u64 (a0 : Nat)) rfl rfl (by kernel_rfl) (by kernel_rfl) (by kernel_rfl) (fun _ _ _ h => h) (Or.inl ⟨by kernel_rfl, fun w hw => by have hc := Ext.cell hw f2A; go_simp⟩) hS ?_; (try simp only [Act.put, List.setIfInBounds_toArray, List.set_cons_zero, List.set_cons_succ])
       refine takeD (some 60) (i := 5) (oi := ⟨some 60, _, _, _, _, _⟩) (v := .int .i64 (a0 : Nat)) rfl rfl (by kernel_rfl) (by kernel_rfl) (by kernel_rfl) (fun _ _ _ h => h) (Or.inl ⟨by kernel_rfl, fun w hw => by go_simp⟩) hS ?_; (try simp only [Act.put, List.setIfInBounds_toArray, List.set_cons_zero, List.set_cons_succ])
       refine takeD (some 61) (i := 6) (oi := ⟨some 61, _, _, _, _, _⟩) (v := .slice (some ⟨b, o, none⟩) k c3) rfl rfl (by kernel_rfl) (by kernel_rfl) (by kernel_rfl) (fun _ _ _ h => h) (Or.inl ⟨by kernel_rfl, fun w hw => by go_simp⟩) hS ?_; (try simp only [Act.put, List.setIfInBounds_toArray, List.set_cons_zero, List.set_cons_succ])
       refine takeD (some 62) (i := 7) (oi := ⟨some 62, _, _, _, _, _⟩) (v := .pointer (some ⟨b, o + 1, none⟩)) rfl rfl (by kernel_rfl) (by kernel_rfl) (by kernel_rfl) (fun _ _ _ h => h) (Or.inl ⟨by kernel_rfl, fun w hw => by go_simp⟩) hS ?_; (try simp only [Act.put, List.setIfInBounds_toArray, List.set_cons_zero, List.set_cons_succ])
       refine takeD (some 63) (i := 8) (oi := ⟨some 63, _, _, _, _, _⟩) (v := .int .u64 (a1 : Nat)) rfl rfl (by kernel_rfl) (by kernel_rfl) (by kernel_rfl) (fun _ _ _ h => h) (Or.inl ⟨by kernel_rfl, fun w hw => by have hc := Ext.cell hw f3A; go_simp⟩) hS ?_; (try simp only [Act.put, List.setIfInBounds_toArray, List.set_cons_zero, List.set_cons_succ])
       refine takeD (some 64) (i := 9) (oi := ⟨some 64, _, _, _, _, _⟩) (v := .int .i64 (a1 : Nat)) rfl rfl (by kernel_rfl) (by kernel_rfl) (by kernel_rfl) (fun _ _ _ h => h) (Or.inl ⟨by kernel_rfl, fun w hw => by go_simp⟩) hS ?_; (try simp only [Act.put, List.setIfInBounds_toArray, List.set_cons_zero, List.set_cons_succ])
       refine takeD (some 65) (i := 10) (oi := ⟨some 65, _, _, _, _, _⟩) (v := .slice (some ⟨b, o, none⟩) k c3) rfl rfl (by kernel_rfl) (by kernel_rfl) (by kernel_rfl) (fun _ _ _ h => h) (Or.inl ⟨by kernel_rfl, fun w hw => by go_simp⟩) hS ?_; (try simp only [Act.put, List.setIfInBounds_toArray, List.set_cons_zero, List.set_cons_succ])
       refine takeD (some 66) (i := 11) (oi := ⟨some 66, _, _, _, _, _⟩) (v := .pointer (some ⟨b, o + 2, none⟩)) rfl rfl (by kernel_rfl) (by kernel_rfl) (by kernel_rfl) (fun _ _ _ h => h) (Or.inl ⟨by kernel_rfl, fun w hw => by go_simp⟩) hS ?_; (try simp only [Act.put, List.setIfInBounds_toArray, List.set_cons_zero, List.set_cons_succ])
       refine takeD (some 67) (i := 12) (oi := ⟨some 67, _, _, _, _, _⟩) (v := .int .u64 (a2 : Nat)) rfl rfl (by kernel_rfl) (by kernel_rfl) (by kernel_rfl) (fun _ _ _ h => h) (Or.inl ⟨by kernel_rfl, fun w hw => by have hc := Ext.cell hw f4A; go_simp⟩) hS ?_; (try simp only [Act.put, List.setIfInBounds_toArray, List.set_cons_zero, List.set_cons_succ])
       refine takeD (some 68) (i := 13) (oi := ⟨some 68, _, _, _, _, _⟩) (v := .int .i64 (a2 : Nat)) rfl rfl (by kernel_rfl) (by kernel_rfl) (by kernel_rfl) (fun _ _ _ h => h) (Or.inl ⟨by kernel_rfl, fun w hw => by go_simp⟩) hS ?_; (try simp only [Act.put, List.setIfInBounds_toArray, List.set_cons_zero, List.set_cons_succ])
       refine takeD (some 69) (i := 14) (oi := ⟨some 69, _, _, _, _, _⟩) (v := .slice (some ⟨b, o, none⟩) k c3) rfl rfl (by kernel_rfl) (by kernel_rfl) (by kernel_rfl) (fun _ _ _ h => h) (Or.inl ⟨by kernel_rfl, fun w hw => by go_simp⟩) hS ?_; (try simp only [Act.put, List.setIfInBounds_toArray, List.set_cons_zero, List.set_cons_succ])
       refine takeD (some 70) (i := 15) (oi := ⟨some 70, _, _, _, _, _⟩) (v := .pointer (some ⟨b, o + 3, none⟩)) rfl rfl (by kernel_rfl) (by kernel_rfl) (by kernel_rfl) (fun _ _ _ h => h) (Or.inl ⟨by kernel_rfl, fun w hw => by go_simp⟩) hS ?_; (try simp only [Act.put, List.setIfInBounds_toArray, List.set_cons_zero, List.set_cons_succ])
       refine takeD (some 71) (i := 16) (oi := ⟨some 71, _, _, _, _, _⟩) (v := .int .u64 (a3 : Nat)) rfl rfl (by kernel_rfl) (by kernel_rfl) (by kernel_rfl) (fun _ _ _ h => h) (Or.inl ⟨by kernel_rfl, fun w hw => by have hc := Ext.cell hw f5A; go_simp⟩) hS ?_; (try simp only [Act.put, List.setIfInBounds_toArray, List.set_cons_zero, List.set_cons_succ])
       refine takeD (some 72) (i := 17) (oi := ⟨some 72, _, _, _, _, _⟩) (v := .int .i64 (a3 : Nat)) rfl rfl (by kernel_rfl) (by kernel_rfl) (by kernel_rfl) (fun _ _ _ h => h) (Or.inl ⟨by kernel_rfl, fun w hw => by go_simp⟩) hS ?_; (try simp only [Act.put, List.setIfInBounds_toArray, List.set_cons_zero, List.set_cons_succ])
       refine takeD (some 73) (i := 18) (oi := ⟨some 73, _, _, _, _, _⟩) (v := .agg #[.int .i64 (s : Nat), .int .i64 (a0 : Nat), .int .i64 (a1 : Nat), .int .i64 (a2 : Nat), .int .i64 (a3 : Nat), .slice none 0 0]) rfl rfl (by kernel_rfl) (by kernel_rfl) (by kernel_rfl) (fun _ _ _ h => h) (Or.inl ⟨by kernel_rfl, fun w hw => by go_simp⟩) hS ?_; (try simp only [Act.put, List.setIfInBounds_toArray, List.set_cons_zero, List.set_cons_succ])
       refine wpAnyH_ready (rs := [19]) (by kernel_rfl) (by simp) (AllReadyH.cons (o := ⟨some 10, _, _, _, _, _⟩) rfl (fun K hK => ?_) AllReadyH.nil)
       refine step_alloc rfl (some 10) rfl 25 rfl _ alloc_mf ?_; intro g8 w5 hg8 hx5 bn; have hgn := Nat.le_trans (Below.size hS) hg8; refine hK.out _ _ (Ext.tr hS hx5) ?_; intro hS; (try simp only [Act.put, List.setIfInBounds_toArray, List.set_cons_zero, List.set_cons_succ])
       refine wpAnyH_ready (rs := [20]) (by kernel_rfl) (by simp) (AllReadyH.cons (o := ⟨none, _, _, _, _, _⟩) rfl (fun K hK => ?_) AllReadyH.nil)
       refine step_store rfl none rfl 25 (.tmp 10) (.tmp 73) rfl g8 25 #[.int .i64 0, .int .i64 0, .int .i64 0, .int .i64 0, .int .i64 0, .slice none 0 0] #[.int .i64 (s : Nat), .int .i64 (a0 : Nat), .int .i64 (a1 : Nat), .int .i64 (a2 : Nat), .int .i64 (a3 : Nat), .slice none 0 0] rfl rfl bn rfl (mf_one' _ _ _ _ _ _ _ _) 6 mf_wide rfl ?_; intro w6 c14 hkeep hext; refine hK.out _ _ (hext _ hgn hS) ?_; intro hS; clear hkeep hext hK bn; (try simp only [Act.put, List.setIfInBounds_toArray, List.set_cons_zero, List.set_cons_succ])
       refine wpAnyH_done (by kernel_rfl) ?_ _
      -- END13
       go_wp2_with fail
       go_meet
       case rel => exact ⟨g8, rfl, hgn, hS, c14⟩
      case rest =>
        obtain ⟨g8, rfl, hg8, hxc, b8⟩ := hcut
        obtain ⟨W0, hW0⟩ : ∃ W0, W0 = wr := ⟨_, rfl⟩
        rw [← hW0] at hg8 hxc
        have HRU0 : Hid (Rd W0 (some ⟨b, o, none⟩) k (u64s us)) := Lib.hid (by rw [hW0]; exact RUr.out)
        have HX0 : Hid (Ext w W0) := Lib.hid (by rw [hW0]; exact HX.out)
        have HB40 : Hid (Blk W0 w.heap.size 25 #[.int .i64 0, .int .i64 0, .int .i64 0, .int .i64 0, .int .i64 0, .slice none 0 0]) := Lib.hid (by rw [hW0]; exact B4r.out)
        clear hW0 f1A f2A f3A f4A f5A c0 c1w c2 c3w s0 s1 s2 s3 t4 t5 t6 t7 hz4 hg6'
        obtain ⟨SS, hSS⟩ : ∃ SS, SS = segsOf (us.drop 4) := ⟨_, rfl⟩
        have HSS := Lib.hid hSS
        have hq : SS.length = (k - 4) / 4 := by rw [hSS, segsOf_len, List.length_drop, ← Hn2.out]
        have hget : ∀ j, j < SS.length → SS[j]? = some ⟨us.getD (4 + 4 * j) 0, us.getD (4 + 4 * j + 1) 0, us.getD (4 + 4 * j + 2) 0, us.getD (4 + 4 * j + 3) 0⟩ := fun j hj => by
          rw [hSS] at hj ⊢
          rw [segsOf_get _ j hj]
          simp only [List.getD_eq_getElem?_getD, List.getElem?_drop]
          rfl
        have HGet := Lib.hid hget
        have hz0 : w.heap.size ≤ W0.heap.size := HX0.out.size
        clear hSS hget
        go_wp2_with fail
        go_loopw [11] (fun v11 wr => RsR W0 s a0 a1 a2 a3 g8 SS v11 wr) (fun v11 _ => k - (intOf v11).toNat)
        case atStart => exact ⟨0, none, 0, rfl, by omega, hxc, b8, World.ownsRow_nil _ _ _ _⟩
        case round =>
          obtain ⟨k2, B, d2, rfl, hk2, hx2, hbT, ho⟩ := hrel
          rename World => wq
          by_cases hlt : k2 < SS.length
          · have hk0 : (SS.take k2).length = k2 := by rw [List.length_take]; omega
            have hk1 : (SS.take (k2 + 1)).length = k2 + 1 := by rw [List.length_take]; omega
            have hap := mown_apart ho hbT
            have hts : sgCells (SS.take (k2 + 1)) = sgCells (SS.take k2) ++ (sgcells ⟨(us.getD (4 + 4 * k2) 0 : Nat), (us.getD (4 + 4 * k2 + 1) 0 : Nat), (us.getD (4 + 4 * k2 + 2) 0 : Nat), (us.getD (4 + 4 * k2 + 3) 0 : Nat)⟩).toList := by
              have hg := HGet.out k2 hlt
              have hg2 := (List.getElem?_eq_some_iff.1 hg).2
              rw [List.take_succ_eq_append_getElem hlt, sgCells_app, hg2, sgCells_one1]
            obtain ⟨I0, hI0⟩ : ∃ I, I = 4 + 4 * k2 := ⟨_, rfl⟩
            rw [← hI0] at hts ⊢
            have hIk : I0 + 3 < k := by omega
            obtain ⟨_, _, hA1, m0⟩ := at_u64 HRU0.out (show I0 < k by omega)
            injection hA1 with hA1
            injection hA1 with hb ho'
            subst hb ho'
            obtain ⟨_, _, hA1, m1⟩ := at_u64 HRU0.out (show I0 + 1 < k by omega)
            injection hA1 with hA1
            injection hA1 with hb ho'
            subst hb ho'
            obtain ⟨_, _, hA1, m2⟩ := at_u64 HRU0.out (show I0 + 2 < k by omega)
            injection hA1 with hA1
            injection hA1 with hb ho'
            subst hb ho'
            obtain ⟨_, _, hA1, m3⟩ := at_u64 HRU0.out (show I0 + 3 < k by omega)
            injection hA1 with hA1
            injection hA1 with hb ho'
            subst hb ho'
            have z0 := HSM.out I0
            have z1' := HSM.out (I0 + 1)
            have z2' := HSM.out (I0 + 2)
            have z3 := HSM.out (I0 + 3)
            generalize us.getD I0 0 = x0 at *
            generalize us.getD (I0 + 1) 0 = x1 at *
            generalize us.getD (I0 + 2) 0 = x2 at *
            generalize us.getD (I0 + 3) 0 = x3 at *
            have HI0 := Lib.hid hI0
            have Hts := Lib.hid hts
            have cw0 : IntKind.i64.wrap (x0 : Int) = (x0 : Int) := wraps_i64 _ (by omega) (by omega)
            have cw1 : IntKind.i64.wrap (x1 : Int) = (x1 : Int) := wraps_i64 _ (by omega) (by omega)
            have cw2 : IntKind.i64.wrap (x2 : Int) = (x2 : Int) := wraps_i64 _ (by omega) (by omega)
            have cw3 : IntKind.i64.wrap (x3 : Int) = (x3 : Int) := wraps_i64 _ (by omega) (by omega)
            have hI0b : I0 ≤ 2000 := by omega
            have aw1 : IntKind.i64.wrap ((I0 : Int) + 1) = (I0 : Int) + 1 := wraps_i64 _ (by omega) (by omega)
            have aw2 : IntKind.i64.wrap ((I0 : Int) + 2) = (I0 : Int) + 2 := wraps_i64 _ (by omega) (by omega)
            have aw3 : IntKind.i64.wrap ((I0 : Int) + 3) = (I0 : Int) + 3 := wraps_i64 _ (by omega) (by omega)
            have i0 : I0 < k := by omega
            have i1 : (I0 : Int) + 1 < (k : Int) := by omega
            have i2 : (I0 : Int) + 2 < (k : Int) := by omega
            have i3 : (I0 : Int) + 3 < (k : Int) := by omega
            have n1 : ((I0 : Int) + 1).toNat = I0 + 1 := by omega
            have n2 : ((I0 : Int) + 2).toNat = I0 + 2 := by omega
            have n3 : ((I0 : Int) + 3).toNat = I0 + 3 := by omega
            have p1 : 0 ≤ (I0 : Int) + 1 := by omega
            have p2 : 0 ≤ (I0 : Int) + 2 := by omega
            have p3 : 0 ≤ (I0 : Int) + 3 := by omega
            have bq : wq.cell? ⟨g8, 5, none⟩ = some (.slice B k2 d2) := hbT.cell 5
            have bqA : ∀ ob, (wq.alloc ob).cell? ⟨g8, 5, none⟩ = some (.slice B k2 d2) := fun ob => (BlkA (o := ob) hbT).cell 5
            have Hown2 : Hid (World.ownsRow (wq.drew.alloc (.cells #[.int .i64 (x0 : Nat), .int .i64 (x1 : Nat), .int .i64 (x2 : Nat), .int .i64 (x3 : Nat)] 115)) W0.heap.size 115 4 (.slice B k2 d2) k2 (sgCells (SS.take k2))) := Lib.hid (by have := MOwnA (o := .cells #[.int .i64 (x0 : Nat), .int .i64 (x1 : Nat), .int .i64 (x2 : Nat), .int .i64 (x3 : Nat)] 115) (MOwnD ho); unfold OwnSg at this; rwa [hk0] at this)
            have hbT2 : Blk (wq.drew.alloc (.cells #[.int .i64 (x0 : Nat), .int .i64 (x1 : Nat), .int .i64 (x2 : Nat), .int .i64 (x3 : Nat)] 115)) g8 25 _ := BlkA (BlkD hbT)
            have hbL : Blk (wq.drew.alloc (.cells #[.int .i64 (x0 : Nat), .int .i64 (x1 : Nat), .int .i64 (x2 : Nat), .int .i64 (x3 : Nat)] 115)) wq.heap.size 115 #[.int .i64 (x0 : Nat), .int .i64 (x1 : Nat), .int .i64 (x2 : Nat), .int .i64 (x3 : Nat)] := BlkN rfl
            have Hnw : Hid (∀ j u, (#[.int .i64 (x0 : Nat), .int .i64 (x1 : Nat), .int .i64 (x2 : Nat), .int .i64 (x3 : Nat)] : Array Value).toList[j]? = some u → (wq.drew.alloc (.cells #[.int .i64 (x0 : Nat), .int .i64 (x1 : Nat), .int .i64 (x2 : Nat), .int .i64 (x3 : Nat)] 115)).cell? ((⟨wq.heap.size, 0, none⟩ : Addr).add j) = some u) := Lib.hid fun j u hu => by rw [Addr.add_lit, Nat.zero_add, hbL.cell]; simpa using hu
            have hN : W0.heap.size ≤ wq.heap.size := hx2.size
            have H1 : Hid (∀ u ∈ (#[.int .i64 (x0 : Nat), .int .i64 (x1 : Nat), .int .i64 (x2 : Nat), .int .i64 (x3 : Nat)] : Array Value).toList, u.oneCell' = true) := Lib.hid (sg_one ⟨(x0 : Int), (x1 : Int), (x2 : Int), (x3 : Int)⟩)
            have Hbs : Hid (W0.heap.size ≤ (wq.drew.alloc (.cells #[.int .i64 (x0 : Nat), .int .i64 (x1 : Nat), .int .i64 (x2 : Nat), .int .i64 (x3 : Nat)] 115)).heap.size) := Lib.hid (by simp; omega)
            clear hI0 hts ho hbL hk0
            go_upto_region 17 with fail
            -- REGION17
            refine wp_region_held_drew (S := fun w' => Ext W0 w') (by kernel_rfl) (ExtD hx2) (fun hS => ?_)
            refine takeD (some 81) (i := 0) (oi := ⟨some 81, _, _, _, _, _⟩) (v := .pointer (some ⟨g8, 5, none⟩)) rfl rfl (by kernel_rfl) (by kernel_rfl) (by kernel_rfl) (fun _ _ _ h => h) (Or.inl ⟨by kernel_rfl, fun w hw => by go_simp⟩) hS ?_; (try simp only [Act.put, List.setIfInBounds_toArray, List.set_cons_zero, List.set_cons_succ])
            refine takeD (some 83) (i := 2) (oi := ⟨some 83, _, _, _, _, _⟩) (v := .slice (some ⟨b, o, none⟩) k c3) rfl rfl (by kernel_rfl) (by kernel_rfl) (by kernel_rfl) (fun _ _ _ h => h) (Or.inl ⟨by kernel_rfl, fun w hw => by go_simp⟩) hS ?_; (try simp only [Act.put, List.setIfInBounds_toArray, List.set_cons_zero, List.set_cons_succ])
            refine takeD (some 84) (i := 3) (oi := ⟨some 84, _, _, _, _, _⟩) (v := .int .i64 (I0 : Nat)) rfl rfl (by kernel_rfl) (by kernel_rfl) (by kernel_rfl) (fun _ _ _ h => h) (Or.inl ⟨by kernel_rfl, fun w hw => by go_simp⟩) hS ?_; (try simp only [Act.put, List.setIfInBounds_toArray, List.set_cons_zero, List.set_cons_succ])
            refine takeD (some 85) (i := 4) (oi := ⟨some 85, _, _, _, _, _⟩) (v := .pointer (some ⟨b, o + I0, none⟩)) rfl rfl (by kernel_rfl) (by kernel_rfl) (by kernel_rfl) (fun _ _ _ h => h) (Or.inl ⟨by kernel_rfl, fun w hw => by go_simp⟩) hS ?_; (try simp only [Act.put, List.setIfInBounds_toArray, List.set_cons_zero, List.set_cons_succ])
            refine takeD (some 86) (i := 5) (oi := ⟨some 86, _, _, _, _, _⟩) (v := .int .u64 (x0 : Nat)) rfl rfl (by kernel_rfl) (by kernel_rfl) (by kernel_rfl) (fun _ _ _ h => h) (Or.inl ⟨by kernel_rfl, fun w hw => by have hc := Ext.cell hw m0; go_simp⟩) hS ?_; (try simp only [Act.put, List.setIfInBounds_toArray, List.set_cons_zero, List.set_cons_succ])
            refine takeD (some 87) (i := 6) (oi := ⟨some 87, _, _, _, _, _⟩) (v := .int .i64 (x0 : Nat)) rfl rfl (by kernel_rfl) (by kernel_rfl) (by kernel_rfl) (fun _ _ _ h => h) (Or.inl ⟨by kernel_rfl, fun w hw => by go_simp⟩) hS ?_; (try simp only [Act.put, List.setIfInBounds_toArray, List.set_cons_zero, List.set_cons_succ])
            refine takeD (some 88) (i := 7) (oi := ⟨some 88, _, _, _, _, _⟩) (v := .slice (some ⟨b, o, none⟩) k c3) rfl rfl (by kernel_rfl) (by kernel_rfl) (by kernel_rfl) (fun _ _ _ h => h) (Or.inl ⟨by kernel_rfl, fun w hw => by go_simp⟩) hS ?_; (try simp only [Act.put, List.setIfInBounds_toArray, List.set_cons_zero, List.set_cons_succ])
            refine takeD (some 89) (i := 8) (oi := ⟨some 89, _, _, _, _, _⟩) (v := .int .i64 (I0 : Nat)) rfl rfl (by kernel_rfl) (by kernel_rfl) (by kernel_rfl) (fun _ _ _ h => h) (Or.inl ⟨by kernel_rfl, fun w hw => by go_simp⟩) hS ?_; (try simp only [Act.put, List.setIfInBounds_toArray, List.set_cons_zero, List.set_cons_succ])
            refine takeD (some 90) (i := 9) (oi := ⟨some 90, _, _, _, _, _⟩) (v := .int .i64 ((I0 : Int) + 1)) rfl rfl (by kernel_rfl) (by kernel_rfl) (by kernel_rfl) (fun _ _ _ h => h) (Or.inl ⟨by kernel_rfl, fun w hw => by go_simp⟩) hS ?_; (try simp only [Act.put, List.setIfInBounds_toArray, List.set_cons_zero, List.set_cons_succ])
            refine takeD (some 91) (i := 10) (oi := ⟨some 91, _, _, _, _, _⟩) (v := .pointer (some ⟨b, o + (I0 + 1), none⟩)) rfl rfl (by kernel_rfl) (by kernel_rfl) (by kernel_rfl) (fun _ _ _ h => h) (Or.inl ⟨by kernel_rfl, fun w hw => by go_simp⟩) hS ?_; (try simp only [Act.put, List.setIfInBounds_toArray, List.set_cons_zero, List.set_cons_succ])
            refine takeD (some 92) (i := 11) (oi := ⟨some 92, _, _, _, _, _⟩) (v := .int .u64 (x1 : Nat)) rfl rfl (by kernel_rfl) (by kernel_rfl) (by kernel_rfl) (fun _ _ _ h => h) (Or.inl ⟨by kernel_rfl, fun w hw => by have hc := Ext.cell hw m1; go_simp⟩) hS ?_; (try simp only [Act.put, List.setIfInBounds_toArray, List.set_cons_zero, List.set_cons_succ])
            refine takeD (some 93) (i := 12) (oi := ⟨some 93, _, _, _, _, _⟩) (v := .int .i64 (x1 : Nat)) rfl rfl (by kernel_rfl) (by kernel_rfl) (by kernel_rfl) (fun _ _ _ h => h) (Or.inl ⟨by kernel_rfl, fun w hw => by go_simp⟩) hS ?_; (try simp only [Act.put, List.setIfInBounds_toArray, List.set_cons_zero, List.set_cons_succ])
            refine takeD (some 94) (i := 13) (oi := ⟨some 94, _, _, _, _, _⟩) (v := .slice (some ⟨b, o, none⟩) k c3) rfl rfl (by kernel_rfl) (by kernel_rfl) (by kernel_rfl) (fun _ _ _ h => h) (Or.inl ⟨by kernel_rfl, fun w hw => by go_simp⟩) hS ?_; (try simp only [Act.put, List.setIfInBounds_toArray, List.set_cons_zero, List.set_cons_succ])
            refine takeD (some 95) (i := 14) (oi := ⟨some 95, _, _, _, _, _⟩) (v := .int .i64 (I0 : Nat)) rfl rfl (by kernel_rfl) (by kernel_rfl) (by kernel_rfl) (fun _ _ _ h => h) (Or.inl ⟨by kernel_rfl, fun w hw => by go_simp⟩) hS ?_; (try simp only [Act.put, List.setIfInBounds_toArray, List.set_cons_zero, List.set_cons_succ])
            refine takeD (some 96) (i := 15) (oi := ⟨some 96, _, _, _, _, _⟩) (v := .int .i64 ((I0 : Int) + 2)) rfl rfl (by kernel_rfl) (by kernel_rfl) (by kernel_rfl) (fun _ _ _ h => h) (Or.inl ⟨by kernel_rfl, fun w hw => by go_simp⟩) hS ?_; (try simp only [Act.put, List.setIfInBounds_toArray, List.set_cons_zero, List.set_cons_succ])
            refine takeD (some 97) (i := 16) (oi := ⟨some 97, _, _, _, _, _⟩) (v := .pointer (some ⟨b, o + (I0 + 2), none⟩)) rfl rfl (by kernel_rfl) (by kernel_rfl) (by kernel_rfl) (fun _ _ _ h => h) (Or.inl ⟨by kernel_rfl, fun w hw => by go_simp⟩) hS ?_; (try simp only [Act.put, List.setIfInBounds_toArray, List.set_cons_zero, List.set_cons_succ])
            refine takeD (some 98) (i := 17) (oi := ⟨some 98, _, _, _, _, _⟩) (v := .int .u64 (x2 : Nat)) rfl rfl (by kernel_rfl) (by kernel_rfl) (by kernel_rfl) (fun _ _ _ h => h) (Or.inl ⟨by kernel_rfl, fun w hw => by have hc := Ext.cell hw m2; go_simp⟩) hS ?_; (try simp only [Act.put, List.setIfInBounds_toArray, List.set_cons_zero, List.set_cons_succ])
            refine takeD (some 99) (i := 18) (oi := ⟨some 99, _, _, _, _, _⟩) (v := .int .i64 (x2 : Nat)) rfl rfl (by kernel_rfl) (by kernel_rfl) (by kernel_rfl) (fun _ _ _ h => h) (Or.inl ⟨by kernel_rfl, fun w hw => by go_simp⟩) hS ?_; (try simp only [Act.put, List.setIfInBounds_toArray, List.set_cons_zero, List.set_cons_succ])
            refine takeD (some 100) (i := 19) (oi := ⟨some 100, _, _, _, _, _⟩) (v := .slice (some ⟨b, o, none⟩) k c3) rfl rfl (by kernel_rfl) (by kernel_rfl) (by kernel_rfl) (fun _ _ _ h => h) (Or.inl ⟨by kernel_rfl, fun w hw => by go_simp⟩) hS ?_; (try simp only [Act.put, List.setIfInBounds_toArray, List.set_cons_zero, List.set_cons_succ])
            refine takeD (some 101) (i := 20) (oi := ⟨some 101, _, _, _, _, _⟩) (v := .int .i64 (I0 : Nat)) rfl rfl (by kernel_rfl) (by kernel_rfl) (by kernel_rfl) (fun _ _ _ h => h) (Or.inl ⟨by kernel_rfl, fun w hw => by go_simp⟩) hS ?_; (try simp only [Act.put, List.setIfInBounds_toArray, List.set_cons_zero, List.set_cons_succ])
            refine takeD (some 102) (i := 21) (oi := ⟨some 102, _, _, _, _, _⟩) (v := .int .i64 ((I0 : Int) + 3)) rfl rfl (by kernel_rfl) (by kernel_rfl) (by kernel_rfl) (fun _ _ _ h => h) (Or.inl ⟨by kernel_rfl, fun w hw => by go_simp⟩) hS ?_; (try simp only [Act.put, List.setIfInBounds_toArray, List.set_cons_zero, List.set_cons_succ])
            refine takeD (some 103) (i := 22) (oi := ⟨some 103, _, _, _, _, _⟩) (v := .pointer (some ⟨b, o + (I0 + 3), none⟩)) rfl rfl (by kernel_rfl) (by kernel_rfl) (by kernel_rfl) (fun _ _ _ h => h) (Or.inl ⟨by kernel_rfl, fun w hw => by go_simp⟩) hS ?_; (try simp only [Act.put, List.setIfInBounds_toArray, List.set_cons_zero, List.set_cons_succ])
            refine takeD (some 104) (i := 23) (oi := ⟨some 104, _, _, _, _, _⟩) (v := .int .u64 (x3 : Nat)) rfl rfl (by kernel_rfl) (by kernel_rfl) (by kernel_rfl) (fun _ _ _ h => h) (Or.inl ⟨by kernel_rfl, fun w hw => by have hc := Ext.cell hw m3; go_simp⟩) hS ?_; (try simp only [Act.put, List.setIfInBounds_toArray, List.set_cons_zero, List.set_cons_succ])
            refine takeD (some 105) (i := 24) (oi := ⟨some 105, _, _, _, _, _⟩) (v := .int .i64 (x3 : Nat)) rfl rfl (by kernel_rfl) (by kernel_rfl) (by kernel_rfl) (fun _ _ _ h => h) (Or.inl ⟨by kernel_rfl, fun w hw => by go_simp⟩) hS ?_; (try simp only [Act.put, List.setIfInBounds_toArray, List.set_cons_zero, List.set_cons_succ])
            refine takeD (some 106) (i := 25) (oi := ⟨some 106, _, _, _, _, _⟩) (v := .agg #[.int .i64 (x0 : Nat), .int .i64 (x1 : Nat), .int .i64 (x2 : Nat), .int .i64 (x3 : Nat)]) rfl rfl (by kernel_rfl) (by kernel_rfl) (by kernel_rfl) (fun _ _ _ h => h) (Or.inl ⟨by kernel_rfl, fun w hw => by go_simp⟩) hS ?_; (try simp only [Act.put, List.setIfInBounds_toArray, List.set_cons_zero, List.set_cons_succ])
            refine wpAnyH_ready (rs := [1, 26]) (by kernel_rfl) (by simp) (AllReadyH.cons (o := ⟨some 82, _, _, _, _, _⟩) rfl (fun K hK => ?_) (AllReadyH.cons (o := ⟨some 107, _, _, _, _, _⟩) rfl (fun K hK => ?_) AllReadyH.nil))
            · (refine step_run rfl (some 82) rfl (.slice B k2 d2) wq.drew (by have hc := bq; go_simp) ?_; refine hK.out _ _ hS ?_; intro hS; (try simp only [Act.put, List.setIfInBounds_toArray, List.set_cons_zero, List.set_cons_succ]))
              refine wpAnyH_ready (rs := [26]) (by kernel_rfl) (by simp) (AllReadyH.cons (o := ⟨some 107, _, _, _, _, _⟩) rfl (fun K hK => ?_) AllReadyH.nil)
              (refine step_run rfl (some 107) rfl (.slice (some ⟨wq.heap.size, 0, none⟩) 1 1) (wq.drew.alloc (.cells #[.int .i64 (x0 : Nat), .int .i64 (x1 : Nat), .int .i64 (x2 : Nat), .int .i64 (x3 : Nat)] 115)) (by kernel_rfl) ?_; refine hK.out _ _ (ExtA hS) ?_; intro hS; (try simp only [Act.put, List.setIfInBounds_toArray, List.set_cons_zero, List.set_cons_succ]))
              refine wpAnyH_ready (rs := [27]) (by kernel_rfl) (by simp) (AllReadyH.cons (o := ⟨some 108, _, _, _, _, _⟩) rfl (fun K hK => ?_) AllReadyH.nil)
              refine mstep_append_own rfl (.tmp 82) (.tmp 107) 23 rfl W0.heap.size 115 _ 4 32 Tryz.underlying23 el_sg (.slice B k2 d2) k2 (sgCells (SS.take k2)) rfl Hown2.out ⟨wq.heap.size, 0, none⟩ 1 1 #[.int .i64 (x0 : Nat), .int .i64 (x1 : Nat), .int .i64 (x2 : Nat), .int .i64 (x3 : Nat)].toList rfl rfl Hnw.out H1.out (by simp only [maxLen]; omega) (by omega) Hbs.out ?_; intro v' w7 hown' hg'; obtain ⟨B3, d3, rfl⟩ := own_slice hown'; have q := BlkG hbT2 hg' (fun h => hap _ _ h.symm); have z1 := q.cell 5; have z2 := q.frozen 5; have hX7 : Ext W0 w7 := Ext.grown hS hg' (fun r hr2 => (World.ownsRow.lt Hown2.out r hr2).1); refine hK.out _ _ hX7 ?_; intro hS; (try simp only [Act.put, List.setIfInBounds_toArray, List.set_cons_zero, List.set_cons_succ])
              refine takeD (some 109) (i := 28) (oi := ⟨some 109, _, _, _, _, _⟩) (v := .pointer (some ⟨g8, 5, none⟩)) rfl rfl (by kernel_rfl) (by kernel_rfl) (by kernel_rfl) (fun _ _ _ h => h) (Or.inl ⟨by kernel_rfl, fun w hw => by go_simp⟩) hS ?_; (try simp only [Act.put, List.setIfInBounds_toArray, List.set_cons_zero, List.set_cons_succ])
              refine wpAnyH_ready (rs := [29]) (by kernel_rfl) (by simp) (AllReadyH.cons (o := ⟨none, _, _, _, _, _⟩) rfl (fun K hK => ?_) AllReadyH.nil)
              refine step_store1 rfl none rfl (.tmp 109) (.tmp 108) rfl rfl rfl z1 z2 ?_; refine hK.out _ _ (ExtS (by dsimp only; omega) hX7) ?_; intro hS; clear hK; (try simp only [Act.put, List.setIfInBounds_toArray, List.set_cons_zero, List.set_cons_succ])
              refine wpAnyH_done (by kernel_rfl) ?_ _
              go_wp2_with fail
              go_roundw
              case rel => exact ⟨k2 + 1, B3, d3, congrArg (Value.int .i64) (by have := HI0.out; omega), by omega, hS, Blk_eq (BlkS q) rfl, by have o3 : OwnSg w7 W0.heap.size B3 (SS.take (k2 + 1)) d3 := (by unfold OwnSg; rw [hk1, Hts.out]; exact hown'); exact MOwnSt (mown_apart o3 q) o3⟩
              case measure => simp [intOf]; omega
            · (refine step_run rfl (some 107) rfl (.slice (some ⟨wq.heap.size, 0, none⟩) 1 1) (wq.drew.alloc (.cells #[.int .i64 (x0 : Nat), .int .i64 (x1 : Nat), .int .i64 (x2 : Nat), .int .i64 (x3 : Nat)] 115)) (by kernel_rfl) ?_; refine hK.out _ _ (ExtA hS) ?_; intro hS; (try simp only [Act.put, List.setIfInBounds_toArray, List.set_cons_zero, List.set_cons_succ]))
              refine wpAnyH_ready (rs := [1]) (by kernel_rfl) (by simp) (AllReadyH.cons (o := ⟨some 82, _, _, _, _, _⟩) rfl (fun K hK => ?_) AllReadyH.nil)
              (refine step_run rfl (some 82) rfl (.slice B k2 d2) (wq.drew.alloc (.cells #[.int .i64 (x0 : Nat), .int .i64 (x1 : Nat), .int .i64 (x2 : Nat), .int .i64 (x3 : Nat)] 115)) (by have hc := bqA; go_simp) ?_; refine hK.out _ _ hS ?_; intro hS; (try simp only [Act.put, List.setIfInBounds_toArray, List.set_cons_zero, List.set_cons_succ]))
              refine wpAnyH_ready (rs := [27]) (by kernel_rfl) (by simp) (AllReadyH.cons (o := ⟨some 108, _, _, _, _, _⟩) rfl (fun K hK => ?_) AllReadyH.nil)
              refine mstep_append_own rfl (.tmp 82) (.tmp 107) 23 rfl W0.heap.size 115 _ 4 32 Tryz.underlying23 el_sg (.slice B k2 d2) k2 (sgCells (SS.take k2)) rfl Hown2.out ⟨wq.heap.size, 0, none⟩ 1 1 #[.int .i64 (x0 : Nat), .int .i64 (x1 : Nat), .int .i64 (x2 : Nat), .int .i64 (x3 : Nat)].toList rfl rfl Hnw.out H1.out (by simp only [maxLen]; omega) (by omega) Hbs.out ?_; intro v' w7 hown' hg'; obtain ⟨B3, d3, rfl⟩ := own_slice hown'; have q := BlkG hbT2 hg' (fun h => hap _ _ h.symm); have z1 := q.cell 5; have z2 := q.frozen 5; have hX7 : Ext W0 w7 := Ext.grown hS hg' (fun r hr2 => (World.ownsRow.lt Hown2.out r hr2).1); refine hK.out _ _ hX7 ?_; intro hS; (try simp only [Act.put, List.setIfInBounds_toArray, List.set_cons_zero, List.set_cons_succ])
              refine takeD (some 109) (i := 28) (oi := ⟨some 109, _, _, _, _, _⟩) (v := .pointer (some ⟨g8, 5, none⟩)) rfl rfl (by kernel_rfl) (by kernel_rfl) (by kernel_rfl) (fun _ _ _ h => h) (Or.inl ⟨by kernel_rfl, fun w hw => by go_simp⟩) hS ?_; (try simp only [Act.put, List.setIfInBounds_toArray, List.set_cons_zero, List.set_cons_succ])
              refine wpAnyH_ready (rs := [29]) (by kernel_rfl) (by simp) (AllReadyH.cons (o := ⟨none, _, _, _, _, _⟩) rfl (fun K hK => ?_) AllReadyH.nil)
              refine step_store1 rfl none rfl (.tmp 109) (.tmp 108) rfl rfl rfl z1 z2 ?_; refine hK.out _ _ (ExtS (by dsimp only; omega) hX7) ?_; intro hS; clear hK; (try simp only [Act.put, List.setIfInBounds_toArray, List.set_cons_zero, List.set_cons_succ])
              refine wpAnyH_done (by kernel_rfl) ?_ _
              go_wp2_with fail
              go_roundw
              case rel => exact ⟨k2 + 1, B3, d3, congrArg (Value.int .i64) (by have := HI0.out; omega), by omega, hS, Blk_eq (BlkS q) rfl, by have o3 : OwnSg w7 W0.heap.size B3 (SS.take (k2 + 1)) d3 := (by unfold OwnSg; rw [hk1, Hts.out]; exact hown'); exact MOwnSt (mown_apart o3 q) o3⟩
              case measure => simp [intOf]; omega
            -- END17
          · have hke : k2 = SS.length := by omega
            have htk : SS.take k2 = SS := List.take_of_length_le (by omega)
            rw [htk] at ho
            obtain ⟨I0, hI0⟩ : ∃ I, I = 4 + 4 * k2 := ⟨_, rfl⟩
            rw [← hI0]
            have u7 : decide ((I0 : Int) + 3 < (k : Int)) = false := by simp; omega
            have hI0b : I0 ≤ 2000 := by omega
            have hlS : SS.length ≤ 1000 := by omega
            have hman : manOf s us = ⟨(s : Int), (a0 : Int), (a1 : Int), (a2 : Int), (a3 : Int), SS⟩ := by rw [Hman.out, ← HSS.out]
            have hE := HR2.out
            rw [hman] at hE
            have KE := Lib.hid fun W (h : SgRd W B SS) => mrenc_any ⟨(s : Int), (a0 : Int), (a1 : Int), (a2 : Int), (a3 : Int), SS⟩ B d2 W h (by dsimp only; omega) trivial
            unfold MePost mfcells at KE
            dsimp only at KE
            have hlen6 := manE_len ⟨(s : Int), (a0 : Int), (a1 : Int), (a2 : Int), (a3 : Int), SS⟩
            generalize manE ⟨(s : Int), (a0 : Int), (a1 : Int), (a2 : Int), (a3 : Int), SS⟩ = r3 at *
            obtain ⟨bs, E3⟩ := r3
            dsimp only at KE hE hlen6
            have HE3 := Lib.hid hE
            rw [← hke] at KE
            have hX2 : Ext w wq := HX0.out.tr hx2
            have b4q := BlkE HB40.out hx2
            have HO := Lib.hid ho
            have KS := Lib.hid fun A5 c5 W (hx : Ext w W) (h : Rd W A5 bs.length (u8s bs)) => same_any A5 A bs.length c5 sz c bs l W h (HR.out.ext hx) (by unfold maxLen; omega)
            have HK2 := Lib.hid hke
            have Hman2 := Lib.hid hman
            clear hE hman hke htk ho hI0 hq
            have hgz : w.heap.size < W0.heap.size := HB40.out.lt
            by_cases he3 : E3 = 0
            case neg =>
              have hR := HE3.out
              rw [if_pos (.inl he3)] at hR
              have hd := Lib.hid hR
              have u8 : ((E3 : Int) == 0) = false := by simp; omega
              have u8b : ((E3 : Int) != 0) = true := by simp; omega
              clear hR
              go_wp2_with (first
                | (with_reducible refine wpL_load_row rfl 25 (.tmp 10) rfl _ 25 _ 6 rfl hbT mf_wide (mf_size' _ _ _ _ _ _ _ _) ?_)
                | (go_at_call 13; (with_reducible refine (KE.out _ HO.out.rd).mono ?_); rintro e w8 ⟨A5, c5, rfl, hx8, ho8⟩; have b4 := BlkE b4q hx8)
                | (with_reducible refine wpL_store_row rfl 25 (.tmp 2) (.tmp 123) rfl _ 25 _ _ rfl rfl b4 ((mf_size' _ _ _ _ _ _ _ _).trans (mf_size' _ _ _ _ _ _ _ _).symm) (mf_one' _ _ _ _ _ _ _ _) 6 mf_wide (mf_size' _ _ _ _ _ _ _ _) ?_))
              ((try simp only [Exit.inBlock, Exit.then]); refine bodyPost_ret (v := .tuple #[.agg (mfcells noMf none 0), .int .i64 80]) (res_row_t rfl _ w.heap.size 25 _ 6 _ rfl rfl ?_ mf_wide rfl) rfl ?_)
              · exact Blk.setRow_ b4
              · exact md_bad hd.out rfl (by repeat (first | with_reducible exact Below.refl _ _ | with_reducible assumption | with_reducible refine ExtD ?_ | with_reducible refine ExtDN ?_ | with_reducible refine ExtA ?_ | (with_reducible refine ExtR ?_ ?_; (first | omega | (dsimp only; omega) | (simp; done) | (simp; omega))) | (with_reducible refine ExtS ?_ ?_; (first | omega | (dsimp only; omega) | (simp; done) | (simp; omega))) | with_reducible refine Ext.tr ?_ (by with_reducible assumption)))
            subst he3
            by_cases hsame : bs = l
            case neg =>
              have hR := HE3.out
              rw [if_pos (.inr hsame)] at hR
              have hd := Lib.hid hR
              rw [decide_eq_false hsame] at KS
              clear hR hsame
              go_wp2_with (first
                | (with_reducible refine wpL_load_row rfl 25 (.tmp 10) rfl _ 25 _ 6 rfl hbT mf_wide (mf_size' _ _ _ _ _ _ _ _) ?_)
                | (go_at_call 13; (with_reducible refine (KE.out _ HO.out.rd).mono ?_); rintro e w8 ⟨A5, c5, rfl, hx8, ho8⟩; have b4 := BlkE b4q hx8)
                | (go_at_call 29; (with_reducible refine (KS.out _ _ _ (hX2.tr hx8) (rd_own ho8)).mono ?_); rintro e w9 ⟨rfl, hx9⟩; have b4 := BlkE b4 hx9)
                | (with_reducible refine wpL_store_row rfl 25 (.tmp 2) (.tmp 123) rfl _ 25 _ _ rfl rfl b4 ((mf_size' _ _ _ _ _ _ _ _).trans (mf_size' _ _ _ _ _ _ _ _).symm) (mf_one' _ _ _ _ _ _ _ _) 6 mf_wide (mf_size' _ _ _ _ _ _ _ _) ?_))
              ((try simp only [Exit.inBlock, Exit.then]); refine bodyPost_ret (v := .tuple #[.agg (mfcells noMf none 0), .int .i64 80]) (res_row_t rfl _ w.heap.size 25 _ 6 _ rfl rfl ?_ mf_wide rfl) rfl ?_)
              · exact Blk.setRow_ b4
              · exact md_bad hd.out rfl (by repeat (first | with_reducible exact Below.refl _ _ | with_reducible assumption | with_reducible refine ExtD ?_ | with_reducible refine ExtDN ?_ | with_reducible refine ExtA ?_ | (with_reducible refine ExtR ?_ ?_; (first | omega | (dsimp only; omega) | (simp; done) | (simp; omega))) | (with_reducible refine ExtS ?_ ?_; (first | omega | (dsimp only; omega) | (simp; done) | (simp; omega))) | with_reducible refine Ext.tr ?_ (by with_reducible assumption)))
            have hR := HE3.out
            rw [if_neg (by rintro (h | h); exact h rfl; exact h hsame)] at hR
            have hd := Lib.hid hR
            rw [decide_eq_true hsame] at KS
            clear hR hsame
            go_wp2_with (first
              | (with_reducible refine wpL_load_row rfl 25 (.tmp 10) rfl _ 25 _ 6 rfl hbT mf_wide (mf_size' _ _ _ _ _ _ _ _) ?_)
              | (go_at_call 13; (with_reducible refine (KE.out _ HO.out.rd).mono ?_); rintro e w8 ⟨A5, c5, rfl, hx8, ho8⟩; have b4 := BlkE b4q hx8; have b8w := BlkE hbT hx8)
              | (go_at_call 29; (with_reducible refine (KS.out _ _ _ (hX2.tr hx8) (rd_own ho8)).mono ?_); rintro e w9 ⟨rfl, hx9⟩; have b4 := BlkE b4 hx9; have b9w := BlkE b8w hx9)
              | (with_reducible refine wpL_load_row rfl 25 (.tmp 10) rfl _ 25 _ 6 rfl b9w mf_wide (mf_size' _ _ _ _ _ _ _ _) ?_)
              | (with_reducible refine wpL_store_row rfl 25 (.tmp 2) (.tmp 124) rfl _ 25 _ _ rfl rfl b4 ((mf_size' _ _ _ _ _ _ _ _).trans (mf_size' _ _ _ _ _ _ _ _).symm) (mf_one' _ _ _ _ _ _ _ _) 6 mf_wide (mf_size' _ _ _ _ _ _ _ _) ?_))
            (try simp only [Exit.inBlock, Exit.then]); refine bodyPost_ret (v := .tuple #[.agg (mfcells ⟨(s : Int), (a0 : Int), (a1 : Int), (a2 : Int), (a3 : Int), SS⟩ B d2), .int .i64 0]) (res_row_t rfl _ w.heap.size 25 _ 6 _ rfl rfl ?_ mf_wide rfl) rfl ?_
            · have := Blk.setRow_ (ds := #[.int .i64 (s : Nat), .int .i64 (a0 : Nat), .int .i64 (a1 : Nat), .int .i64 (a2 : Nat), .int .i64 (a3 : Nat), .slice B k2 d2]) b4
              unfold mfcells
              dsimp only
              rw [← HK2.out]
              exact this
            · rw [hd.out]
              have ho9 : OwnSg w9 W0.heap.size B SS d2 := own_ext (hx8.tr hx9) HO.out
              exact ⟨B, d2, rfl, (by repeat (first | with_reducible exact Below.refl _ _ | with_reducible assumption | with_reducible refine ExtD ?_ | with_reducible refine ExtDN ?_ | with_reducible refine ExtA ?_ | (with_reducible refine ExtR ?_ ?_; (first | omega | (dsimp only; omega) | (simp; done) | (simp; omega))) | (with_reducible refine ExtS ?_ ?_; (first | omega | (dsimp only; omega) | (simp; done) | (simp; omega))) | with_reducible refine Ext.tr ?_ (by with_reducible assumption))), sown_less (MOwnRw (mown_apart ho9 b4) ho9) (Nat.le_of_lt hgz)⟩
end Go.Proofs.YtjajbbgebblalaaGreatDoor
