/-
  The walk of OrderFolds. (Written by wip/tools/gen_folds.py.)
-/
import Derived.Test.YtlpjhnecihhkfaaOrdRs
import Derived.Test.YtlpjhnecihhkfaaOrdLawA
namespace Go.Proofs.Ytlpjhnecihhkfaa
open Go.RowKit
set_option linter.unusedVariables false
set_option linter.unusedSimpArgs false
theorem step_callRw {P : Program} {w : World} {ops : Array Oper} {o : Oper} {a : Act} {K : Act → World → Prop} {Q : Exit → Act → World → Prop} {E : Prop}
    (hwt : Region.wanted o (yielded ops a.tmps) = true) (d : Option Tmp) (hd : o.dst = d) (f : FuncId) (fn : Func) (hf : P.funcs[f]? = some fn) (hnm : (fn.name == "runtime.NumGoroutine") = false) (hbd : fn.body.isNone = false) (args : Array Operand) (ats : Array TypeId) (ho : o.op = .call { callee := .value (.func f), args := args, argTypes := ats })
    (vals : Array Value) (hv : args.map a.eval = vals) (R : Ending → World → Prop) (hc : Calls P f vals w R) (hK : ∀ e w', R e w' → ∃ v, e = .returned v ∧ K (a.put d v) w') :
    if Region.wanted o (yielded ops a.tmps) = true then Oper.wp P o a w K Q else E := by
  subst hd
  rw [if_pos hwt]
  clear hwt
  obtain ⟨dst, op, ty, pos, after, guard⟩ := o
  simp only at ho
  subst ho
  have hr : (execOp a.eval { dst, op := .call { callee := .value (.func f), args := args, argTypes := ats }, type := ty, pos, after, guard }).run P w = .ok (.enter f vals) w := by
    subst hv
    have h2 : (callFunc f (#[] ++ args.map a.eval ++ #[])).run P w = .ok (.enter f (args.map a.eval)) w := by
      have hnm' : ¬ fn.name = "runtime.NumGoroutine" := by simpa using hnm
      have hbd' : ¬ fn.body = none := by intro hc; rw [hc] at hbd; simp at hbd
      simp [callFunc, go_sem, hf, hnm', hbd']
    exact h2
  unfold Oper.wp
  rw [hr, Oper.upon_enter]
  refine hc.mono fun e w' h => ?_
  obtain ⟨v, rfl, hk⟩ := hK e w' h
  exact hk
def FolR (w : World) (g5 g6 b : Nat) (s s2 : St) (A : Option Addr) (c : Nat) (A5 : Option Addr) (c5 : Nat) (A6 : Option Addr) (c6 : Nat) (c46 : Value) (wr : World) : Prop :=
  ∃ (k : Nat) (ls : List Ln), c46 = .int .i64 (k : Nat) ∧ k ≤ s.lines.length ∧ ls.length = s.lines.length ∧ Ext w wr ∧ Blk wr w.heap.size 25 (stcells s A c) ∧ Blk wr g5 25 (stcells s A5 c5) ∧ Blk wr g6 25 (stcells s2 A6 c6) ∧
    OwnLs wr w.heap.size A5 ls c5 ∧ OwnLs wr b A6 s2.lines c6
set_option maxRecDepth 100000 in
set_option maxHeartbeats 40000000 in
theorem orderFolds_walk (s : St) (A : Option Addr) (c : Nat) (B : Option Addr) (cb : Nat) (es : List Ev) (w : World) (hr : LsRd w A s.lines) (hs : StWf s) (hre : EsRd w B es) (hel : es.length * 96 ≤ 140737488351232) (hes : ∀ e ∈ es, EvWf e) :
    Calls Try.prog 7 #[.agg (stcells s A c), .slice B es.length cb] w fun e w' => e = .returned (.bool true) ∧ Ext w w' := by
  have hss : StSm s := ⟨hs.2.2.2.1, by have := hs.2.2.1; omega⟩
  have hlen := hs.2.2.2.1
  have hes1 : ∀ e ∈ es, EvSm e := fun e he => ev_sm (hes e he)
  have K0 := Lib.hid head_any
  have K3 := Lib.hid fun W (h : LsRd W A s.lines) => scopy_any s A c W h (by omega)
  have KF := Lib.hid fun A1 c1 A2 c2 W (h : LsRd W A1 s.lines) (h2 : EsRd W A2 es) => fold_any s es A1 A2 c1 c2 W h h2 hss hes1 (by omega)
  have KR := Lib.hid fun W (h : LsRd W A s.lines) (h2 : EsRd W B es) => rfold_any s es A B c cb W h h2 hss hes1 (by omega)
  have KS := Lib.hid fun A1 c1 A2 c2 W (h : LsRd W A1 (fold s es).lines) (h2 : LsRd W A2 (fold s es).lines) => same_any (fold s es) A1 A2 c1 c2 W h h2 (by have := (sm_fold es hss).1; omega)
  have KM := Lib.hid fun A1 c1 W (h : LsRd W A1 s.lines) (h2 : LsRd W A s.lines) => same_any s A1 A c1 c W h h2 (by omega)
  have H1s := Lib.hid (evCells_one es)
  obtain ⟨n, hnn⟩ : ∃ n, n = es.length := ⟨_, rfl⟩
  have hre0 : RdN w 10 B n (evCells es) := by rw [hnn]; exact hre
  rw [← hnn] at hel KF KR ⊢
  have HesL : Hid (∀ W A6, RdN W 10 A6 n (evCells es) → EsRd W A6 es) := Lib.hid fun W A6 h => by unfold EsRd; rw [← hnn]; exact h
  unfold CopPost at K3
  unfold FoPost at KF KR
  generalize fold s es = sF at *
  clear hes hs hes1 hss hnn
  go_enter Try.func7, Try.ntmps7
  go_upto_region 4 with (first
    | (go_at_call 20; (with_reducible refine (K0.out _).mono ?_); rintro e w1 ⟨rfl, hx1⟩; have b1 : Blk w1 w.heap.size 25 (stcells s A c) := BlkE (BlkN rfl) hx1)
    | (with_reducible refine wpL_load_row rfl 25 (.tmp 2) rfl _ 25 _ 12 rfl b1 st_wide (stc_size _ _ _) ?_)
    | (go_at_call 15; (with_reducible refine (K3.out _ (hr.ext exA)).mono ?_); rintro e w4 ⟨A4, c4, rfl, hx4, ho4⟩)
    | (with_reducible refine wpL_store_row rfl 25 (.tmp 5) (.tmp 11) rfl _ 25 _ _ rfl rfl (BlkN rfl) ((stc_size _ _ _).trans (st_size' _ _ _ _ _ _ _ _ _ _ _ _ _ _).symm) (stc_one _ _ _) 12 st_wide (stc_size _ _ _) ?_))
  have b5 := Blk.setRow_ (ds := stcells s A4 c4) (BlkN (w := w4) (cs := #[.int .i64 0, .int .i64 0, .int .i64 0, .int .i64 0, .int .i64 0, .slice none 0 0, .int .i64 0, .int .i64 0, .int .i64 0, .int .i64 0, .int .i64 0, .string ⟨#[]⟩]) (t := 25) rfl)
  have h1z : w.heap.size + 1 ≤ w1.heap.size := by have := hx1.size; simpa using this
  have h4z : w1.heap.size ≤ w4.heap.size := hx4.size
  have hwz : w.heap.size ≤ w4.heap.size := by omega
  have hX0 : Ext w ((w4.alloc (.cells #[.int .i64 0, .int .i64 0, .int .i64 0, .int .i64 0, .int .i64 0, .slice none 0 0, .int .i64 0, .int .i64 0, .int .i64 0, .int .i64 0, .int .i64 0, .string ⟨#[]⟩] 25)).setRow w4.heap.size (stcells s A4 c4)) := exA
  have b2 : Blk ((w4.alloc (.cells #[.int .i64 0, .int .i64 0, .int .i64 0, .int .i64 0, .int .i64 0, .slice none 0 0, .int .i64 0, .int .i64 0, .int .i64 0, .int .i64 0, .int .i64 0, .string ⟨#[]⟩] 25)).setRow w4.heap.size (stcells s A4 c4)) w.heap.size 25 (stcells s A c) := BlkR (by omega) (BlkA (BlkE b1 hx4))
  have o5 : OwnLs ((w4.alloc (.cells #[.int .i64 0, .int .i64 0, .int .i64 0, .int .i64 0, .int .i64 0, .slice none 0 0, .int .i64 0, .int .i64 0, .int .i64 0, .int .i64 0, .int .i64 0, .string ⟨#[]⟩] 25)).setRow w4.heap.size (stcells s A4 c4)) w.heap.size A4 s.lines c4 := own_less (OwnRw (ds := stcells s A4 c4) (own_apart (OwnA (o := (.cells #[.int .i64 0, .int .i64 0, .int .i64 0, .int .i64 0, .int .i64 0, .slice none 0 0, .int .i64 0, .int .i64 0, .int .i64 0, .int .i64 0, .int .i64 0, .string ⟨#[]⟩] 25)) ho4) (BlkN rfl)) (OwnA (o := (.cells #[.int .i64 0, .int .i64 0, .int .i64 0, .int .i64 0, .int .i64 0, .slice none 0 0, .int .i64 0, .int .i64 0, .int .i64 0, .int .i64 0, .int .i64 0, .string ⟨#[]⟩] 25)) ho4)) (by omega)
  have hwg : w.heap.size < w4.heap.size := by omega
  clear b1 hx1 hx4 ho4 h1z h4z hwz
  generalize (w4.alloc (.cells #[.int .i64 0, .int .i64 0, .int .i64 0, .int .i64 0, .int .i64 0, .slice none 0 0, .int .i64 0, .int .i64 0, .int .i64 0, .int .i64 0, .int .i64 0, .string ⟨#[]⟩] 25)).setRow w4.heap.size (stcells s A4 c4) = Wr at *
  generalize w4.heap.size = g5 at *
  dsimp only [Act.put]
  go_cut [6] (fun v6 wc2 => CutS Wr sF v6 wc2)
  case first =>
    refine wp_region_held_drew (S := fun w' => Ext Wr w') (by kernel_rfl) (ExtD (Ext.rfl' _)) (fun hS => ?_)
    refine takeD (some 12) (i := 0) (v := .agg (stcells s A4 c4)) rfl rfl (by kernel_rfl) (by kernel_rfl) (by kernel_rfl) (fun _ _ _ h => h) (yields_row (by kernel_rfl) 25 (.tmp 5) rfl g5 25 (stcells s A4 c4) 12 rfl (fun w hw => Ext.blk hw b5) st_wide (stc_size _ _ _)) hS ?_; (try simp only [Act.put, List.setIfInBounds_toArray, List.set_cons_zero, List.set_cons_succ])
    refine takeD (some 14) (i := 2) (v := .slice B n cb) rfl rfl (by kernel_rfl) (by kernel_rfl) (by kernel_rfl) (fun _ _ _ h => h) (Or.inl ⟨by kernel_rfl, fun _ _ => rfl⟩) hS ?_; (try simp only [Act.put, List.setIfInBounds_toArray, List.set_cons_zero, List.set_cons_succ])
    refine wpAnyH_ready (rs := [1, 5]) (by kernel_rfl) (by simp) (AllReadyH.cons rfl (fun K hK => ?_) (AllReadyH.cons rfl (fun K hK => ?_) AllReadyH.nil))
    · (refine step_new0 rfl (some 13) rfl 49 28 rfl new_ev ?_; intro g2 w' hg hx b2n; have hg2 := Nat.le_trans (Ext.size hS) hg;  clear hg; refine hK.out _ _ (Ext.tr hS hx) ?_; intro hS; clear hx hK; (try simp only [Act.put, List.setIfInBounds_toArray, List.set_cons_zero, List.set_cons_succ]))
      refine wpAnyH_ready (rs := [3, 5]) (by kernel_rfl) (by simp) (AllReadyH.cons rfl (fun K hK => ?_) (AllReadyH.cons rfl (fun K hK => ?_) AllReadyH.nil))
      · (have h2 := own_new0 (s := 10) b2n hg2; refine step_append_rd rfl (some 15) rfl (.tmp 13) (.tmp 14) 49 rfl Wr.heap.size 28 _ 10 96 Try.underlying49 el_ev (.slice (some ⟨g2, 0, none⟩) 0 0) 0 [] rfl h2 B n cb (evCells es) rfl (hre0.ext (Ext.tr hX0 hS)) H1s.out (by simp only [maxLen]; omega) (by omega) (Ext.size hS) ?_; intro v' w' hown hgr; obtain ⟨A6, c6, rfl⟩ := own_slice hown; have hS2 : Ext Wr w' := Ext.grown hS hgr (fun r hr => own_lt h2 r hr);  have o6 := own_evs hown; clear h2 hown hgr; refine hK.out _ _ hS2 ?_; intro hS; clear hS2 hK; (try simp only [Act.put, List.setIfInBounds_toArray, List.set_cons_zero, List.set_cons_succ]); rw [Nat.zero_add])
        refine wpAnyH_ready (rs := [4, 5]) (by kernel_rfl) (by simp) (AllReadyH.cons rfl (fun K hK => ?_) (AllReadyH.cons rfl (fun K hK => ?_) AllReadyH.nil))
        · (refine step_callR rfl (some 16) rfl 28 _ Try.func28 (by kernel_rfl) (by kernel_rfl) _ _ rfl #[.agg (stcells s A4 c4), .slice A6 n c6] (by simp [Act.eval, Act.put]) _ (KF.out _ _ _ _ _ (o5.rd.ext hS) (HesL.out _ _ o6)) ?_; rintro e w' ⟨A7, c7, rfl, hx, o7⟩; refine ⟨_, rfl, ?_⟩; have o7 : OwnLs w' Wr.heap.size A7 sF.lines c7 := own_less o7 (Ext.size hS);  refine hK.out _ _ (Ext.tr hS hx) ?_; intro hS; clear hx hK; (try simp only [Act.put, List.setIfInBounds_toArray, List.set_cons_zero, List.set_cons_succ]))
          refine wpAnyH_ready (rs := [5]) (by kernel_rfl) (by simp) (AllReadyH.cons rfl (fun K hK => ?_) AllReadyH.nil)
          (refine step_alloc rfl (some 6) rfl 25 rfl _ alloc_st0 ?_; intro g6 w' hg hx b6; have hg6 := Nat.le_trans (Ext.size hS) hg; have o7 := OwnLs.mono o7 hx;  clear hg; refine hK.out _ _ (Ext.tr hS hx) ?_; intro hS; clear hx hK; (try simp only [Act.put, List.setIfInBounds_toArray, List.set_cons_zero, List.set_cons_succ]))
          refine wpAnyH_ready (rs := [6]) (by kernel_rfl) (by simp) (AllReadyH.cons rfl (fun K hK => ?_) AllReadyH.nil)
          (refine step_store rfl none rfl 25 (.tmp 6) (.tmp 16) rfl g6 25 #[.int .i64 0, .int .i64 0, .int .i64 0, .int .i64 0, .int .i64 0, .slice none 0 0, .int .i64 0, .int .i64 0, .int .i64 0, .int .i64 0, .int .i64 0, .string ⟨#[]⟩] (stcells sF A7 c7) rfl rfl b6 (by rw [stc_size]; rfl) (stc_one _ _ _) 12 st_wide (stc_size _ _ _) ?_; intro w' d6 hkeep hext; have o7 : OwnLs w' Wr.heap.size A7 sF.lines c7 := own_keepB o7 hkeep (own_apart o7 b6 _ _); refine hK.out _ _ (hext _ hg6 hS) ?_; intro hS; clear hkeep hext hK b6; (try simp only [Act.put, List.setIfInBounds_toArray, List.set_cons_zero, List.set_cons_succ]))
          refine wpAnyH_done (by kernel_rfl) ?_ _
          go_wp2_with fail
          go_meet
          case rel => exact ⟨g6, A7, c7, rfl, hS, hg6, d6, o7⟩
        · (refine step_alloc rfl (some 6) rfl 25 rfl _ alloc_st0 ?_; intro g6 w' hg hx b6; have hg6 := Nat.le_trans (Ext.size hS) hg; have o6 := RdN.ext o6 hx;  clear hg; refine hK.out _ _ (Ext.tr hS hx) ?_; intro hS; clear hx hK; (try simp only [Act.put, List.setIfInBounds_toArray, List.set_cons_zero, List.set_cons_succ]))
          refine wpAnyH_ready (rs := [4]) (by kernel_rfl) (by simp) (AllReadyH.cons rfl (fun K hK => ?_) AllReadyH.nil)
          (refine step_callR rfl (some 16) rfl 28 _ Try.func28 (by kernel_rfl) (by kernel_rfl) _ _ rfl #[.agg (stcells s A4 c4), .slice A6 n c6] (by simp [Act.eval, Act.put]) _ (KF.out _ _ _ _ _ (o5.rd.ext hS) (HesL.out _ _ o6)) ?_; rintro e w' ⟨A7, c7, rfl, hx, o7⟩; refine ⟨_, rfl, ?_⟩; have o7 : OwnLs w' Wr.heap.size A7 sF.lines c7 := own_less o7 (Ext.size hS); have b6 := Ext.blk hx b6;  refine hK.out _ _ (Ext.tr hS hx) ?_; intro hS; clear hx hK; (try simp only [Act.put, List.setIfInBounds_toArray, List.set_cons_zero, List.set_cons_succ]))
          refine wpAnyH_ready (rs := [6]) (by kernel_rfl) (by simp) (AllReadyH.cons rfl (fun K hK => ?_) AllReadyH.nil)
          (refine step_store rfl none rfl 25 (.tmp 6) (.tmp 16) rfl g6 25 #[.int .i64 0, .int .i64 0, .int .i64 0, .int .i64 0, .int .i64 0, .slice none 0 0, .int .i64 0, .int .i64 0, .int .i64 0, .int .i64 0, .int .i64 0, .string ⟨#[]⟩] (stcells sF A7 c7) rfl rfl b6 (by rw [stc_size]; rfl) (stc_one _ _ _) 12 st_wide (stc_size _ _ _) ?_; intro w' d6 hkeep hext; have o7 : OwnLs w' Wr.heap.size A7 sF.lines c7 := own_keepB o7 hkeep (own_apart o7 b6 _ _); refine hK.out _ _ (hext _ hg6 hS) ?_; intro hS; clear hkeep hext hK b6; (try simp only [Act.put, List.setIfInBounds_toArray, List.set_cons_zero, List.set_cons_succ]))
          refine wpAnyH_done (by kernel_rfl) ?_ _
          go_wp2_with fail
          go_meet
          case rel => exact ⟨g6, A7, c7, rfl, hS, hg6, d6, o7⟩
      · (refine step_alloc rfl (some 6) rfl 25 rfl _ alloc_st0 ?_; intro g6 w' hg hx b6; have hg6 := Nat.le_trans (Ext.size hS) hg; have hne : g6 ≠ g2 := (by have := b2n.lt; omega); have b2n := Ext.blk hx b2n;  clear hg; refine hK.out _ _ (Ext.tr hS hx) ?_; intro hS; clear hx hK; (try simp only [Act.put, List.setIfInBounds_toArray, List.set_cons_zero, List.set_cons_succ]))
        refine wpAnyH_ready (rs := [3]) (by kernel_rfl) (by simp) (AllReadyH.cons rfl (fun K hK => ?_) AllReadyH.nil)
        (have h2 := own_new0 (s := 10) b2n hg2; refine step_append_rd rfl (some 15) rfl (.tmp 13) (.tmp 14) 49 rfl Wr.heap.size 28 _ 10 96 Try.underlying49 el_ev (.slice (some ⟨g2, 0, none⟩) 0 0) 0 [] rfl h2 B n cb (evCells es) rfl (hre0.ext (Ext.tr hX0 hS)) H1s.out (by simp only [maxLen]; omega) (by omega) (Ext.size hS) ?_; intro v' w' hown hgr; obtain ⟨A6, c6, rfl⟩ := own_slice hown; have hS2 : Ext Wr w' := Ext.grown hS hgr (fun r hr => own_lt h2 r hr); have b6 := BlkG b6 hgr (fun h => hne (by injection h));  have o6 := own_evs hown; clear h2 hown hgr; refine hK.out _ _ hS2 ?_; intro hS; clear hS2 hK; (try simp only [Act.put, List.setIfInBounds_toArray, List.set_cons_zero, List.set_cons_succ]); rw [Nat.zero_add])
        refine wpAnyH_ready (rs := [4]) (by kernel_rfl) (by simp) (AllReadyH.cons rfl (fun K hK => ?_) AllReadyH.nil)
        (refine step_callR rfl (some 16) rfl 28 _ Try.func28 (by kernel_rfl) (by kernel_rfl) _ _ rfl #[.agg (stcells s A4 c4), .slice A6 n c6] (by simp [Act.eval, Act.put]) _ (KF.out _ _ _ _ _ (o5.rd.ext hS) (HesL.out _ _ o6)) ?_; rintro e w' ⟨A7, c7, rfl, hx, o7⟩; refine ⟨_, rfl, ?_⟩; have o7 : OwnLs w' Wr.heap.size A7 sF.lines c7 := own_less o7 (Ext.size hS); have b6 := Ext.blk hx b6;  refine hK.out _ _ (Ext.tr hS hx) ?_; intro hS; clear hx hK; (try simp only [Act.put, List.setIfInBounds_toArray, List.set_cons_zero, List.set_cons_succ]))
        refine wpAnyH_ready (rs := [6]) (by kernel_rfl) (by simp) (AllReadyH.cons rfl (fun K hK => ?_) AllReadyH.nil)
        (refine step_store rfl none rfl 25 (.tmp 6) (.tmp 16) rfl g6 25 #[.int .i64 0, .int .i64 0, .int .i64 0, .int .i64 0, .int .i64 0, .slice none 0 0, .int .i64 0, .int .i64 0, .int .i64 0, .int .i64 0, .int .i64 0, .string ⟨#[]⟩] (stcells sF A7 c7) rfl rfl b6 (by rw [stc_size]; rfl) (stc_one _ _ _) 12 st_wide (stc_size _ _ _) ?_; intro w' d6 hkeep hext; have o7 : OwnLs w' Wr.heap.size A7 sF.lines c7 := own_keepB o7 hkeep (own_apart o7 b6 _ _); refine hK.out _ _ (hext _ hg6 hS) ?_; intro hS; clear hkeep hext hK b6; (try simp only [Act.put, List.setIfInBounds_toArray, List.set_cons_zero, List.set_cons_succ]))
        refine wpAnyH_done (by kernel_rfl) ?_ _
        go_wp2_with fail
        go_meet
        case rel => exact ⟨g6, A7, c7, rfl, hS, hg6, d6, o7⟩
    · (refine step_alloc rfl (some 6) rfl 25 rfl _ alloc_st0 ?_; intro g6 w' hg hx b6; have hg6 := Nat.le_trans (Ext.size hS) hg;  clear hg; refine hK.out _ _ (Ext.tr hS hx) ?_; intro hS; clear hx hK; (try simp only [Act.put, List.setIfInBounds_toArray, List.set_cons_zero, List.set_cons_succ]))
      refine wpAnyH_ready (rs := [1]) (by kernel_rfl) (by simp) (AllReadyH.cons rfl (fun K hK => ?_) AllReadyH.nil)
      (refine step_new0 rfl (some 13) rfl 49 28 rfl new_ev ?_; intro g2 w' hg hx b2n; have hg2 := Nat.le_trans (Ext.size hS) hg; have hne : g6 ≠ g2 := (by have := b6.lt; omega); have b6 := Ext.blk hx b6;  clear hg; refine hK.out _ _ (Ext.tr hS hx) ?_; intro hS; clear hx hK; (try simp only [Act.put, List.setIfInBounds_toArray, List.set_cons_zero, List.set_cons_succ]))
      refine wpAnyH_ready (rs := [3]) (by kernel_rfl) (by simp) (AllReadyH.cons rfl (fun K hK => ?_) AllReadyH.nil)
      (have h2 := own_new0 (s := 10) b2n hg2; refine step_append_rd rfl (some 15) rfl (.tmp 13) (.tmp 14) 49 rfl Wr.heap.size 28 _ 10 96 Try.underlying49 el_ev (.slice (some ⟨g2, 0, none⟩) 0 0) 0 [] rfl h2 B n cb (evCells es) rfl (hre0.ext (Ext.tr hX0 hS)) H1s.out (by simp only [maxLen]; omega) (by omega) (Ext.size hS) ?_; intro v' w' hown hgr; obtain ⟨A6, c6, rfl⟩ := own_slice hown; have hS2 : Ext Wr w' := Ext.grown hS hgr (fun r hr => own_lt h2 r hr); have b6 := BlkG b6 hgr (fun h => hne (by injection h));  have o6 := own_evs hown; clear h2 hown hgr; refine hK.out _ _ hS2 ?_; intro hS; clear hS2 hK; (try simp only [Act.put, List.setIfInBounds_toArray, List.set_cons_zero, List.set_cons_succ]); rw [Nat.zero_add])
      refine wpAnyH_ready (rs := [4]) (by kernel_rfl) (by simp) (AllReadyH.cons rfl (fun K hK => ?_) AllReadyH.nil)
      (refine step_callR rfl (some 16) rfl 28 _ Try.func28 (by kernel_rfl) (by kernel_rfl) _ _ rfl #[.agg (stcells s A4 c4), .slice A6 n c6] (by simp [Act.eval, Act.put]) _ (KF.out _ _ _ _ _ (o5.rd.ext hS) (HesL.out _ _ o6)) ?_; rintro e w' ⟨A7, c7, rfl, hx, o7⟩; refine ⟨_, rfl, ?_⟩; have o7 : OwnLs w' Wr.heap.size A7 sF.lines c7 := own_less o7 (Ext.size hS); have b6 := Ext.blk hx b6;  refine hK.out _ _ (Ext.tr hS hx) ?_; intro hS; clear hx hK; (try simp only [Act.put, List.setIfInBounds_toArray, List.set_cons_zero, List.set_cons_succ]))
      refine wpAnyH_ready (rs := [6]) (by kernel_rfl) (by simp) (AllReadyH.cons rfl (fun K hK => ?_) AllReadyH.nil)
      (refine step_store rfl none rfl 25 (.tmp 6) (.tmp 16) rfl g6 25 #[.int .i64 0, .int .i64 0, .int .i64 0, .int .i64 0, .int .i64 0, .slice none 0 0, .int .i64 0, .int .i64 0, .int .i64 0, .int .i64 0, .int .i64 0, .string ⟨#[]⟩] (stcells sF A7 c7) rfl rfl b6 (by rw [stc_size]; rfl) (stc_one _ _ _) 12 st_wide (stc_size _ _ _) ?_; intro w' d6 hkeep hext; have o7 : OwnLs w' Wr.heap.size A7 sF.lines c7 := own_keepB o7 hkeep (own_apart o7 b6 _ _); refine hK.out _ _ (hext _ hg6 hS) ?_; intro hS; clear hkeep hext hK b6; (try simp only [Act.put, List.setIfInBounds_toArray, List.set_cons_zero, List.set_cons_succ]))
      refine wpAnyH_done (by kernel_rfl) ?_ _
      go_wp2_with fail
      go_meet
      case rel => exact ⟨g6, A7, c7, rfl, hS, hg6, d6, o7⟩
  case rest =>
    obtain ⟨g6, A7, c7, rfl, hx6, hg6, b6, o7⟩ := hcut
    have c2 := BlkE b2 hx6
    have c5 := BlkE b5 hx6
    have p5 := OwnLs.mono o5 hx6
    have hXc := Ext.tr hX0 hx6
    have hlb : ∀ r, (Value.slice A4 s.lines.length c4).ownBlock = some r → r < Wr.heap.size := fun r hr => (World.ownsRow.lt o5 r hr).2
    clear b2 b5 o5 hX0 hx6
    go_upto_region 5 with fail
    refine wp_region_held_drew (S := fun w' => Ext wc w') (by kernel_rfl) (ExtD (Ext.rfl' _)) (fun hS => ?_)
    refine takeD (some 17) (i := 0) (v := .agg (stcells sF A7 c7)) rfl rfl (by kernel_rfl) (by kernel_rfl) (by kernel_rfl) (fun _ _ _ h => h) (yields_row (by kernel_rfl) 25 (.tmp 6) rfl g6 25 (stcells sF A7 c7) 12 rfl (fun w hw => Ext.blk hw b6) st_wide (stc_size _ _ _)) hS ?_; (try simp only [Act.put, List.setIfInBounds_toArray, List.set_cons_zero, List.set_cons_succ])
    refine takeD (some 18) (i := 1) (v := .agg (stcells s A c)) rfl rfl (by kernel_rfl) (by kernel_rfl) (by kernel_rfl) (fun _ _ _ h => h) (yields_row (by kernel_rfl) 25 (.tmp 2) rfl w.heap.size 25 (stcells s A c) 12 rfl (fun w hw => Ext.blk hw c2) st_wide (stc_size _ _ _)) hS ?_; (try simp only [Act.put, List.setIfInBounds_toArray, List.set_cons_zero, List.set_cons_succ])
    refine takeD (some 19) (i := 2) (v := .slice B n cb) rfl rfl (by kernel_rfl) (by kernel_rfl) (by kernel_rfl) (fun _ _ _ h => h) (Or.inl ⟨by kernel_rfl, fun _ _ => rfl⟩) hS ?_; (try simp only [Act.put, List.setIfInBounds_toArray, List.set_cons_zero, List.set_cons_succ])
    refine wpAnyH_ready (rs := [3]) (by kernel_rfl) (by simp) (AllReadyH.cons rfl (fun K hK => ?_) AllReadyH.nil)
    (refine step_callR rfl (some 20) rfl 29 _ Try.func29 (by kernel_rfl) (by kernel_rfl) _ _ rfl #[.agg (stcells s A c), .slice B n cb] (by simp [Act.eval, Act.put]) _ (KR.out _ (hr.ext (Ext.tr hXc hS)) (EsRd.ext hre (Ext.tr hXc hS))) ?_; rintro e w' ⟨A8, c8, rfl, hx, o8⟩; refine ⟨_, rfl, ?_⟩; refine hK.out _ _ (Ext.tr hS hx) ?_; intro hS; clear hx hK; (try simp only [Act.put, List.setIfInBounds_toArray, List.set_cons_zero, List.set_cons_succ]))
    refine wpAnyH_ready (rs := [4]) (by kernel_rfl) (by simp) (AllReadyH.cons rfl (fun K hK => ?_) AllReadyH.nil)
    (refine step_callR rfl (some 21) rfl 23 _ Try.func23 (by kernel_rfl) (by kernel_rfl) _ _ rfl #[.agg (stcells sF A7 c7), .agg (stcells sF A8 c8)] (by simp [Act.eval, Act.put]) _ (KS.out _ _ _ _ _ (o7.rd.ext hS) o8.rd) ?_; rintro e w' ⟨rfl, hx⟩; refine ⟨_, rfl, ?_⟩; refine hK.out _ _ (Ext.tr hS hx) ?_; intro hS; clear hx hK; (try simp only [Act.put, List.setIfInBounds_toArray, List.set_cons_zero, List.set_cons_succ]))
    refine takeD (some 22) (i := 5) (v := .bool false) rfl rfl (by kernel_rfl) (by kernel_rfl) (by kernel_rfl) (fun _ _ _ h => h) (Or.inl ⟨by kernel_rfl, fun w9 hSw => by go_simp⟩) hS ?_; (try simp only [Act.put, List.setIfInBounds_toArray, List.set_cons_zero, List.set_cons_succ])
    refine takeD (some 23) (i := 6) (v := .bool false) rfl rfl (by kernel_rfl) (by kernel_rfl) (by kernel_rfl) (fun _ _ _ h => h) (Or.inl ⟨by kernel_rfl, fun _ _ => rfl⟩) hS ?_; (try simp only [Act.put, List.setIfInBounds_toArray, List.set_cons_zero, List.set_cons_succ])
    refine takeD (some 24) (i := 7) (v := .agg (stcells s A4 c4)) rfl rfl (by kernel_rfl) (by kernel_rfl) (by kernel_rfl) (fun _ _ _ h => h) (yields_row (by kernel_rfl) 25 (.tmp 5) rfl g5 25 (stcells s A4 c4) 12 rfl (fun w hw => Ext.blk hw c5) st_wide (stc_size _ _ _)) hS ?_; (try simp only [Act.put, List.setIfInBounds_toArray, List.set_cons_zero, List.set_cons_succ])
    refine takeD (some 25) (i := 8) (v := .agg (stcells s A c)) rfl rfl (by kernel_rfl) (by kernel_rfl) (by kernel_rfl) (fun _ _ _ h => h) (yields_row (by kernel_rfl) 25 (.tmp 2) rfl w.heap.size 25 (stcells s A c) 12 rfl (fun w hw => Ext.blk hw c2) st_wide (stc_size _ _ _)) hS ?_; (try simp only [Act.put, List.setIfInBounds_toArray, List.set_cons_zero, List.set_cons_succ])
    refine wpAnyH_ready (rs := [9]) (by kernel_rfl) (by simp) (AllReadyH.cons rfl (fun K hK => ?_) AllReadyH.nil)
    (refine step_callRw (by kernel_rfl) (some 26) rfl 23 _ Try.func23 (by kernel_rfl) (by kernel_rfl) _ _ rfl #[.agg (stcells s A4 c4), .agg (stcells s A c)] (by simp [Act.eval, Act.put]) _ (KM.out _ _ _ (p5.rd.ext hS) (hr.ext (Ext.tr hXc hS))) ?_; rintro e w' ⟨rfl, hx⟩; refine ⟨_, rfl, ?_⟩; refine hK.out _ _ (Ext.tr hS hx) ?_; intro hS; clear hx hK; (try simp only [Act.put, List.setIfInBounds_toArray, List.set_cons_zero, List.set_cons_succ]))
    refine takeD (some 27) (i := 10) (v := .bool false) rfl rfl (by kernel_rfl) (by kernel_rfl) (by kernel_rfl) (fun _ _ _ h => h) (Or.inl ⟨by kernel_rfl, fun w9 hSw => by go_simp⟩) hS ?_; (try simp only [Act.put, List.setIfInBounds_toArray, List.set_cons_zero, List.set_cons_succ])
    refine takeD (some 28) (i := 11) (v := .bool false) rfl rfl (by kernel_rfl) (by kernel_rfl) (by kernel_rfl) (fun _ _ _ h => h) (Or.inl ⟨by kernel_rfl, fun w9 hSw => by go_simp⟩) hS ?_; (try simp only [Act.put, List.setIfInBounds_toArray, List.set_cons_zero, List.set_cons_succ])
    refine wpAnyH_done (by kernel_rfl) ?_ _
    rename World => W6
    have d2 := Ext.blk hS c2
    have d5 := Ext.blk hS c5
    have d6 := Ext.blk hS b6
    have q5 := OwnLs.mono p5 hS
    have q7 := OwnLs.mono o7 hS
    have hX6 := Ext.tr hXc hS
    clear c2 c5 b6 p5 o7 hS hXc o8 KM KF K3
    generalize Wr.heap.size = bz at *
    obtain ⟨m, hm⟩ : ∃ m, m = s.lines.length := ⟨_, rfl⟩
    have Hm := Lib.hid hm
    have z5 : World.cell? W6 ⟨g5, 5, none⟩ = some (.slice A4 m c4) := by rw [hm]; exact d5.cell 5
    clear hm
    go_wp2_with fail
    go_loopw [32] (fun c32 wr => FolR w g5 g6 bz s sF A c A4 c4 A7 c7 c32 wr) (fun c32 _ => m - (intOf c32).toNat)
    case atStart => exact ⟨0, s.lines, rfl, by omega, rfl, hX6, d2, d5, d6, q5, q7⟩
    case round =>
      clear d2 d5 d6 q5 q7 z5 hX6
      obtain ⟨k, ls, rfl, hk, hls, hx, d2, d5, d6, q5, q7⟩ := hrel
      rw [← Hm.out] at hk
      by_cases hlt : k < m
      · have hkl : k < ls.length := by rw [hls, ← Hm.out]; exact hlt
        obtain ⟨lb, _, rfl, hlbw, _⟩ := own_blk q5 (by omega)
        have hlbz := hlb lb rfl
        have hLn := own_at q5 hkl
        have HSet := Lib.hid (own_set (f := 2) (v := .int .i64 (-5)) (l := ⟨ls[k].item, ls[k].price, -5, ls[k].shipped⟩) q5 hkl (by omega) rfl)
        have e0 : World.cell? wr ⟨lb, k * 4 + 2, none⟩ = some (.int .i64 ls[k].qty) := hLn 2 _ rfl
        have f0 := own_frozen_ q5 (k * 4 + 2)
        have m2 : w.heap.size ≠ lb := fun h => own_apart q5 d2 0 0 (by rw [h]; rfl)
        have m5 : g5 ≠ lb := fun h => own_apart q5 d5 0 0 (by rw [h]; rfl)
        have m6 : g6 ≠ lb := fun h => own_apart q5 d6 0 0 (by rw [h]; rfl)
        have N7 := notown_lt q7 hlbz
        have z5' : World.cell? wr ⟨g5, 5, none⟩ = some (.slice (some ⟨lb, 0, none⟩) m c4) := by rw [Hm.out]; exact d5.cell 5
        have hkn : (k : Int) < (m : Int) := by omega
        have hk0 : (0 : Int) ≤ (k : Int) := by omega
        clear hLn
        go_wp2_with fail
        refine And.intro ?_ ?_
        · exact ⟨k + 1, _, by go_num, by rw [← Hm.out]; omega, by rw [List.length_set]; exact hls, ExtS (by exact hlbw) hx, BlkF m2 d2, BlkF m5 d5, BlkF m6 d6, HSet.out, OwnSt N7 q7⟩
        · simp [intOf]; omega
      · obtain rfl : k = m := by omega
        go_upto_region 12 with fail
        refine wp_region_held_drew (S := fun w' => Ext wr w') (by kernel_rfl) (ExtD (Ext.rfl' _)) (fun hS => ?_)
        refine takeD (some 41) (i := 0) (v := .agg (stcells sF A7 c7)) rfl rfl (by kernel_rfl) (by kernel_rfl) (by kernel_rfl) (fun _ _ _ h => h) (yields_row (by kernel_rfl) 25 (.tmp 6) rfl g6 25 (stcells sF A7 c7) 12 rfl (fun w hw => Ext.blk hw d6) st_wide (stc_size _ _ _)) hS ?_; (try simp only [Act.put, List.setIfInBounds_toArray, List.set_cons_zero, List.set_cons_succ])
        refine takeD (some 42) (i := 1) (v := .agg (stcells s A c)) rfl rfl (by kernel_rfl) (by kernel_rfl) (by kernel_rfl) (fun _ _ _ h => h) (yields_row (by kernel_rfl) 25 (.tmp 2) rfl w.heap.size 25 (stcells s A c) 12 rfl (fun w hw => Ext.blk hw d2) st_wide (stc_size _ _ _)) hS ?_; (try simp only [Act.put, List.setIfInBounds_toArray, List.set_cons_zero, List.set_cons_succ])
        refine takeD (some 43) (i := 2) (v := .slice B n cb) rfl rfl (by kernel_rfl) (by kernel_rfl) (by kernel_rfl) (fun _ _ _ h => h) (Or.inl ⟨by kernel_rfl, fun _ _ => rfl⟩) hS ?_; (try simp only [Act.put, List.setIfInBounds_toArray, List.set_cons_zero, List.set_cons_succ])
        refine wpAnyH_ready (rs := [3]) (by kernel_rfl) (by simp) (AllReadyH.cons rfl (fun K hK => ?_) AllReadyH.nil)
        (refine step_callR rfl (some 44) rfl 29 _ Try.func29 (by kernel_rfl) (by kernel_rfl) _ _ rfl #[.agg (stcells s A c), .slice B n cb] (by simp [Act.eval, Act.put]) _ (KR.out _ (hr.ext (Ext.tr hx hS)) (EsRd.ext hre (Ext.tr hx hS))) ?_; rintro e w' ⟨A8, c8, rfl, hy, o8⟩; refine ⟨_, rfl, ?_⟩; refine hK.out _ _ (Ext.tr hS hy) ?_; intro hS; clear hy hK; (try simp only [Act.put, List.setIfInBounds_toArray, List.set_cons_zero, List.set_cons_succ]))
        refine wpAnyH_ready (rs := [4]) (by kernel_rfl) (by simp) (AllReadyH.cons rfl (fun K hK => ?_) AllReadyH.nil)
        (refine step_callR rfl (some 45) rfl 23 _ Try.func23 (by kernel_rfl) (by kernel_rfl) _ _ rfl #[.agg (stcells sF A7 c7), .agg (stcells sF A8 c8)] (by simp [Act.eval, Act.put]) _ (KS.out _ _ _ _ _ (q7.rd.ext hS) o8.rd) ?_; rintro e w' ⟨rfl, hy⟩; refine ⟨_, rfl, ?_⟩; refine hK.out _ _ (Ext.tr hS hy) ?_; intro hS; clear hy hK; (try simp only [Act.put, List.setIfInBounds_toArray, List.set_cons_zero, List.set_cons_succ]))
        refine takeD (some 4) (i := 5) (v := .bool true) rfl rfl (by kernel_rfl) (by kernel_rfl) (by kernel_rfl) (fun _ _ _ h => h) (Or.inl ⟨by kernel_rfl, fun _ _ => rfl⟩) hS ?_; (try simp only [Act.put, List.setIfInBounds_toArray, List.set_cons_zero, List.set_cons_succ])
        refine wpAnyH_done (by kernel_rfl) ?_ _
        go_wp2_with fail
        go_ret
        exact ⟨rfl, Ext.tr hx hS⟩
end Go.Proofs.Ytlpjhnecihhkfaa
