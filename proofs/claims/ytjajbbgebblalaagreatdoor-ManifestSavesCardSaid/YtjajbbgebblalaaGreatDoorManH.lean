/-
  The walks of daybooklaw16.first and head. (Written by wip/tools/gen_mhead.py.)
-/
import Derived.Test.YtjajbbgebblalaaGreatDoorManX
import Derived.Test.YtjajbbgebblalaaGreatDoorHand
namespace Go.Proofs.YtjajbbgebblalaaGreatDoor
open Go.RowKit
set_option linter.unusedVariables false
set_option linter.unusedSimpArgs false
theorem step_callW {P : Program} {w : World} {ops : Array Oper} {o : Oper} {a : Act} {K : Act → World → Prop} {Q : Exit → Act → World → Prop} {E : Prop}
    (hwt : Region.wanted o (yielded ops a.tmps) = true) (d : Option Tmp) (hd : o.dst = d) (f : FuncId) (fn : Func) (hf : P.funcs[f]? = some fn) (hnm : (fn.name == "runtime.NumGoroutine") = false) (hbd : fn.body.isNone = false) (args : Array Operand) (ats : Array TypeId) (ho : o.op = .call { callee := .value (.func f), args := args, argTypes := ats })
    (vals : Array Value) (hv : args.map a.eval = vals) (R : Ending → World → Prop) (hc : Calls P f vals w R) (hK : ∀ e w', R e w' → ∃ v, e = .returned v ∧ K (a.put d v) w') :
    if Region.wanted o (yielded ops a.tmps) = true then Oper.wp P o a w K Q else E := by
  subst hd
  rw [if_pos hwt]
  obtain ⟨dst, op, ty, pos, after, guard⟩ := o
  simp only at ho
  subst ho
  have hr : (execOp a.eval { dst, op := .call { callee := .value (.func f), args := args, argTypes := ats }, type := ty, pos, after, guard }).run P w = .ok (.enter f vals) w := by
    subst hv
    have h2 : (callFunc f (#[] ++ args.map a.eval ++ #[])).run P w = .ok (.enter f (args.map a.eval)) w := by
      have hnm' : ¬ fn.name = "runtime.NumGoroutine" := by simpa using hnm
      have hbd' : ¬ fn.body = none := by intro hc; rw [hc] at hbd; simp at hbd
      simp [callFunc, go_sem, hf, hnm', hbd']
    exact h2
  unfold Oper.wp
  rw [hr, Oper.upon_enter]
  refine hc.mono fun e w' h => ?_
  obtain ⟨v, rfl, hk⟩ := hK e w' h
  exact hk
def m1 : Mf := ⟨1, 2, 0, 0, 0, [⟨1, 1, 0, 0⟩]⟩
theorem m1_ok : manB m1 = true := by decide
theorem m1_len : (manE m1).1.length = 29 := by
  rw [manE_ok m1_ok]
  dsimp only
  rw [fenc_len]
  decide +kernel
theorem m1_mi : MI64 m1.next := ⟨by decide, by decide⟩
theorem m1_err : (manE m1).2 = 0 := by rw [manE_ok m1_ok]
set_option maxRecDepth 100000 in
set_option maxHeartbeats 2000000 in
theorem mfirst_any (w : World) : Calls Tryz.prog 44 #[] w fun e w' => ∃ A, e = .returned (.agg #[.int .i64 1, .int .i64 2, .int .i64 0, .int .i64 0, .int .i64 0, .slice A 1 1]) ∧ Ext w w' ∧ SgRd w' A [⟨1, 1, 0, 0⟩] := by
  go_enter Tryz.func44, Tryz.ntmps44
  go_wp2_with (with_reducible refine wpL_store_row rfl 25 (.tmp 0) (.tmp 3) rfl _ 25 _ _ rfl rfl (BlkA (BlkN rfl)) ((mf_size' _ _ _ _ _ _ _ _).trans (mf_size' _ _ _ _ _ _ _ _).symm) (mf_one' _ _ _ _ _ _ _ _) 6 mf_wide (mf_size' _ _ _ _ _ _ _ _) ?_)
  (try simp only [Exit.inBlock, Exit.then]); refine bodyPost_ret (v := .agg #[.int .i64 1, .int .i64 2, .int .i64 0, .int .i64 0, .int .i64 0, .slice (some ⟨w.heap.size + 1, 0, none⟩) 1 1]) (res_row rfl _ _ w.heap.size 25 _ 6 rfl (Blk.setRow_ (BlkA (BlkN rfl))) mf_wide rfl) rfl ?_
  refine ⟨_, rfl, (by repeat (first | with_reducible exact Below.refl _ _ | with_reducible assumption | with_reducible refine ExtD ?_ | with_reducible refine ExtDN ?_ | with_reducible refine ExtA ?_ | (with_reducible refine ExtR ?_ ?_; (first | omega | (dsimp only; omega) | (simp; done) | (simp; omega))) | (with_reducible refine ExtS ?_ ?_; (first | omega | (dsimp only; omega) | (simp; done) | (simp; omega))) | with_reducible refine Ext.tr ?_ (by with_reducible assumption))), ?_⟩
  have hb : Blk ((w.alloc (.cells #[.int .i64 0, .int .i64 0, .int .i64 0, .int .i64 0, .int .i64 0, .slice none 0 0] 25)).alloc (.cells #[.int .i64 1, .int .i64 1, .int .i64 0, .int .i64 0] 115)) (w.heap.size + 1) 115 (sgcells ⟨1, 1, 0, 0⟩) := BlkN (by simp)
  exact srd_one (BlkR (by omega) hb)
set_option maxRecDepth 100000 in
set_option maxHeartbeats 4000000 in
theorem mhead_any (w : World) (hN : Nib w) : Calls Tryz.prog 9 #[] w fun e w' => e = .returned (.bool true) ∧ Ext w w' := by
  have KFi := Lib.hid fun W => mfirst_any W
  have KE : Hid (∀ A W, Ext w W → SgRd W A [⟨1, 1, 0, 0⟩] → Calls Tryz.prog 43 #[.agg #[.int .i64 1, .int .i64 2, .int .i64 0, .int .i64 0, .int .i64 0, .slice A 1 1]] W fun e w' => ∃ A1 c1, e = .returned (.tuple #[.slice A1 29 c1, .int .i64 0]) ∧ Ext W w' ∧ w'.ownsRow W.heap.size 5 1 (.slice A1 29 c1) 29 (u8s (manE m1).1)) := Lib.hid fun A W hx h => (menc_any m1 A 1 W (hN.ext hx) h (by decide) m1_mi).mono fun e w' ⟨A1, c1, he, hx1, ho1⟩ => by
    rw [m1_len] at he ho1
    rw [m1_err] at he
    exact ⟨A1, c1, he, hx1, ho1⟩
  have KD : Hid (∀ A1 c1 W, Ext w W → Rd W A1 29 (u8s (manE m1).1) → 29 ≤ c1 → Calls Tryz.prog 45 #[.slice A1 29 c1] W fun e w' => ∃ A c, e = .returned (.tuple #[.agg #[.int .i64 1, .int .i64 2, .int .i64 0, .int .i64 0, .int .i64 0, .slice A 1 c], .int .i64 0]) ∧ Ext W w' ∧ OwnSg w' W.heap.size A [⟨1, 1, 0, 0⟩] c) := Lib.hid fun A1 c1 W hx h hc => (mdec_any A1 29 c1 (manE m1).1 W (hN.ext hx) h hc (by decide)).mono fun e w' ⟨A, c, he, hx1, ho1⟩ => by
    rw [manD_enc m1_ok] at he ho1
    exact ⟨A, c, he, hx1, ho1⟩
  go_enter Tryz.func9, Tryz.ntmps9
  go_upto_region 2 with (first
    | (go_at_call 44; (with_reducible refine (KFi.out _).mono ?_); rintro e w1 ⟨A2, rfl, hx1, R2⟩)
    | (go_at_call 43; (with_reducible refine (KE.out _ _ hx1 R2).mono ?_); rintro e w2 ⟨A1, c1, rfl, hx2, ho2⟩))
  have hw2 : Ext w w2 := hx1.tr hx2
  have R1 := Lib.hid (rd_own ho2)
  have hcap : 29 ≤ c1 := own_capB ho2
  clear ho2 R2
  go_upto_region 3 with (first
    | (go_at_call 45; (with_reducible refine (KD.out _ _ _ hw2 R1.out hcap).mono ?_); rintro e w3 ⟨A3, c3, rfl, hx3, ho3⟩)
    | (with_reducible refine wpL_store_row rfl 25 (.tmp 3) (.tmp 13) rfl _ 25 _ _ rfl rfl (BlkN rfl) ((mf_size' _ _ _ _ _ _ _ _).trans (mf_size' _ _ _ _ _ _ _ _).symm) (mf_one' _ _ _ _ _ _ _ _) 6 mf_wide (mf_size' _ _ _ _ _ _ _ _) ?_))
  have b3' : Blk ((w3.alloc (.cells #[.int .i64 0, .int .i64 0, .int .i64 0, .int .i64 0, .int .i64 0, .slice none 0 0] 25)).setRow w3.heap.size #[.int .i64 1, .int .i64 2, .int .i64 0, .int .i64 0, .int .i64 0, .slice A3 1 c3]) w3.heap.size 25 #[.int .i64 1, .int .i64 2, .int .i64 0, .int .i64 0, .int .i64 0, .slice A3 1 c3] := Blk.setRow_ (BlkN rfl)
  have hX4' : Ext w3 ((w3.alloc (.cells #[.int .i64 0, .int .i64 0, .int .i64 0, .int .i64 0, .int .i64 0, .slice none 0 0] 25)).setRow w3.heap.size #[.int .i64 1, .int .i64 2, .int .i64 0, .int .i64 0, .int .i64 0, .slice A3 1 c3]) := ExtR (Nat.le_refl _) (ExtA (Ext.rfl' _))
  obtain ⟨w4, hw4⟩ : ∃ w4, w4 = (w3.alloc (.cells #[.int .i64 0, .int .i64 0, .int .i64 0, .int .i64 0, .int .i64 0, .slice none 0 0] 25)).setRow w3.heap.size #[.int .i64 1, .int .i64 2, .int .i64 0, .int .i64 0, .int .i64 0, .slice A3 1 c3] := ⟨_, rfl⟩
  rw [← hw4] at b3' hX4' ⊢
  have b3 := b3'
  obtain ⟨g3, hg3⟩ : ∃ g3, g3 = w3.heap.size := ⟨_, rfl⟩
  rw [← hg3] at b3 ⊢
  have HX4 : Hid (Ext w w4) := Lib.hid ((hw2.tr hx3).tr hX4')
  have R3 : Hid (SgRd w4 A3 [⟨1, 1, 0, 0⟩]) := Lib.hid (ho3.rd.ext hX4')
  have KS : Hid (∀ A5 W, Ext w4 W → SgRd W A5 [⟨1, 1, 0, 0⟩] → Calls Tryz.prog 22 #[.agg #[.int .i64 1, .int .i64 2, .int .i64 0, .int .i64 0, .int .i64 0, .slice A3 1 c3], .agg #[.int .i64 1, .int .i64 2, .int .i64 0, .int .i64 0, .int .i64 0, .slice A5 1 1]] W fun e w' => e = .returned (.bool true) ∧ Ext W w') := Lib.hid fun A5 W hx h => msame_any m1 A3 A5 c3 1 W (R3.out.ext hx) h (by decide)
  have KZ : Hid (∀ W, Ext w4 W → Calls Tryz.prog 46 #[.agg #[.int .i64 1, .int .i64 2, .int .i64 0, .int .i64 0, .int .i64 0, .slice A3 1 c3]] W fun e w' => e = .returned (.int .i64 29) ∧ Ext W w') := Lib.hid fun W hx => (msize_any m1 A3 c3 W (hN.ext (HX4.out.tr hx)) (R3.out.ext hx) (by decide) m1_mi).mono fun e w' ⟨he, hx1⟩ => by
    rw [m1_len] at he
    exact ⟨he, hx1⟩
  have KV : Hid (∀ W, Ext w4 W → Calls Tryz.prog 47 #[.agg #[.int .i64 1, .int .i64 2, .int .i64 0, .int .i64 0, .int .i64 0, .slice A3 1 c3]] W fun e w' => e = .returned (.bool true) ∧ Ext W w') := Lib.hid fun W hx => (mvalid_any m1 A3 c3 W (R3.out.ext hx) (by decide) m1_mi).mono fun e w' ⟨he, hx1⟩ => by
    rw [m1_ok] at he
    exact ⟨he, hx1⟩
  clear hw4 hg3 b3' hX4' hx1 hx2 hx3 hw2 ho3 hN KE KD R1 R3
  refine wp_region_held_drew (S := fun w' => Ext w4 w') (by kernel_rfl) (ExtD (Ext.rfl' _)) (fun hS => ?_)
  refine takeD (some 15) (i := 0) (oi := ⟨some 15, _, _, _, _, _⟩) (v := .int .i64 0) rfl rfl (by kernel_rfl) (by kernel_rfl) (by kernel_rfl) (fun _ _ _ h => h) (Or.inl ⟨by kernel_rfl, fun w hw => by go_simp⟩) hS ?_; (try simp only [Act.put, List.setIfInBounds_toArray, List.set_cons_zero, List.set_cons_succ])
  refine takeD (some 16) (i := 1) (oi := ⟨some 16, _, _, _, _, _⟩) (v := .bool true) rfl rfl (by kernel_rfl) (by kernel_rfl) (by kernel_rfl) (fun _ _ _ h => h) (Or.inl ⟨by kernel_rfl, fun w hw => by go_simp⟩) hS ?_; (try simp only [Act.put, List.setIfInBounds_toArray, List.set_cons_zero, List.set_cons_succ])
  refine takeD (some 17) (i := 2) (oi := ⟨some 17, _, _, _, _, _⟩) (v := .bool true) rfl rfl (by kernel_rfl) (by kernel_rfl) (by kernel_rfl) (fun _ _ _ h => h) (Or.inl ⟨by kernel_rfl, fun w hw => by go_simp⟩) hS ?_; (try simp only [Act.put, List.setIfInBounds_toArray, List.set_cons_zero, List.set_cons_succ])
  refine takeD (some 18) (i := 3) (oi := ⟨some 18, _, _, _, _, _⟩) (v := .slice A1 29 c1) rfl rfl (by kernel_rfl) (by kernel_rfl) (by kernel_rfl) (fun _ _ _ h => h) (Or.inl ⟨by kernel_rfl, fun w hw => by go_simp⟩) hS ?_; (try simp only [Act.put, List.setIfInBounds_toArray, List.set_cons_zero, List.set_cons_succ])
  refine takeD (some 19) (i := 4) (oi := ⟨some 19, _, _, _, _, _⟩) (v := .int .i64 29) rfl rfl (by kernel_rfl) (by kernel_rfl) (by kernel_rfl) (fun _ _ _ h => h) (Or.inl ⟨by kernel_rfl, fun w hw => by go_simp⟩) hS ?_; (try simp only [Act.put, List.setIfInBounds_toArray, List.set_cons_zero, List.set_cons_succ])
  refine takeD (some 20) (i := 5) (oi := ⟨some 20, _, _, _, _, _⟩) (v := .bool true) rfl rfl (by kernel_rfl) (by kernel_rfl) (by kernel_rfl) (fun _ _ _ h => h) (Or.inl ⟨by kernel_rfl, fun w hw => by go_simp⟩) hS ?_; (try simp only [Act.put, List.setIfInBounds_toArray, List.set_cons_zero, List.set_cons_succ])
  refine takeD (some 21) (i := 6) (oi := ⟨some 21, _, _, _, _, _⟩) (v := .bool true) rfl rfl (by kernel_rfl) (by kernel_rfl) (by kernel_rfl) (fun _ _ _ h => h) (Or.inl ⟨by kernel_rfl, fun w hw => by go_simp⟩) hS ?_; (try simp only [Act.put, List.setIfInBounds_toArray, List.set_cons_zero, List.set_cons_succ])
  refine takeD (some 22) (i := 7) (oi := ⟨some 22, _, _, _, _, _⟩) (v := .bool true) rfl rfl (by kernel_rfl) (by kernel_rfl) (by kernel_rfl) (fun _ _ _ h => h) (Or.inl ⟨by kernel_rfl, fun w hw => by go_simp⟩) hS ?_; (try simp only [Act.put, List.setIfInBounds_toArray, List.set_cons_zero, List.set_cons_succ])
  refine takeD (some 23) (i := 8) (oi := ⟨some 23, _, _, _, _, _⟩) (v := .int .i64 0) rfl rfl (by kernel_rfl) (by kernel_rfl) (by kernel_rfl) (fun _ _ _ h => h) (Or.inl ⟨by kernel_rfl, fun w hw => by go_simp⟩) hS ?_; (try simp only [Act.put, List.setIfInBounds_toArray, List.set_cons_zero, List.set_cons_succ])
  refine takeD (some 24) (i := 9) (oi := ⟨some 24, _, _, _, _, _⟩) (v := .bool true) rfl rfl (by kernel_rfl) (by kernel_rfl) (by kernel_rfl) (fun _ _ _ h => h) (Or.inl ⟨by kernel_rfl, fun w hw => by go_simp⟩) hS ?_; (try simp only [Act.put, List.setIfInBounds_toArray, List.set_cons_zero, List.set_cons_succ])
  refine takeD (some 25) (i := 10) (oi := ⟨some 25, _, _, _, _, _⟩) (v := .bool true) rfl rfl (by kernel_rfl) (by kernel_rfl) (by kernel_rfl) (fun _ _ _ h => h) (Or.inl ⟨by kernel_rfl, fun w hw => by go_simp⟩) hS ?_; (try simp only [Act.put, List.setIfInBounds_toArray, List.set_cons_zero, List.set_cons_succ])
  refine takeD (some 26) (i := 11) (oi := ⟨some 26, _, _, _, _, _⟩) (v := .bool true) rfl rfl (by kernel_rfl) (by kernel_rfl) (by kernel_rfl) (fun _ _ _ h => h) (Or.inl ⟨by kernel_rfl, fun w hw => by go_simp⟩) hS ?_; (try simp only [Act.put, List.setIfInBounds_toArray, List.set_cons_zero, List.set_cons_succ])
  refine takeD (some 27) (i := 12) (oi := ⟨some 27, _, _, _, _, _⟩) (v := .agg #[.int .i64 1, .int .i64 2, .int .i64 0, .int .i64 0, .int .i64 0, .slice A3 1 c3]) rfl rfl (by kernel_rfl) (by kernel_rfl) (by kernel_rfl) (fun _ _ _ h => h) (yields_row (by kernel_rfl) 25 (.tmp 3) rfl g3 25 #[.int .i64 1, .int .i64 2, .int .i64 0, .int .i64 0, .int .i64 0, .slice A3 1 c3] 6 rfl (fun w hw => BlkE b3 hw) mf_wide rfl) hS ?_; (try simp only [Act.put, List.setIfInBounds_toArray, List.set_cons_zero, List.set_cons_succ])
  refine wpAnyH_ready (rs := [13]) (by kernel_rfl) (by simp) (AllReadyH.cons (o := ⟨some 28, _, _, _, _, _⟩) rfl (fun K hK => ?_) AllReadyH.nil); refine step_callW (by kernel_rfl) (some 28) rfl 44 _ Tryz.func44 (by kernel_rfl) (by kernel_rfl) _ _ rfl #[] (by first | rfl | simp [Act.eval, Act.put]) _ (KFi.out _) ?_; rintro e w5 ⟨A5, rfl, hxn, R5⟩; have hz5 := hxn; refine ⟨_, rfl, hK.out _ _ (Ext.tr hS hxn) ?_⟩; intro hS; clear hxn hK; (try simp only [Act.put, List.setIfInBounds_toArray, List.set_cons_zero, List.set_cons_succ])
  refine wpAnyH_ready (rs := [14]) (by kernel_rfl) (by simp) (AllReadyH.cons (o := ⟨some 29, _, _, _, _, _⟩) rfl (fun K hK => ?_) AllReadyH.nil); refine step_callW (by kernel_rfl) (some 29) rfl 22 _ Tryz.func22 (by kernel_rfl) (by kernel_rfl) _ _ rfl #[.agg #[.int .i64 1, .int .i64 2, .int .i64 0, .int .i64 0, .int .i64 0, .slice A3 1 c3], .agg #[.int .i64 1, .int .i64 2, .int .i64 0, .int .i64 0, .int .i64 0, .slice A5 1 1]] (by first | rfl | simp [Act.eval, Act.put]) _ (KS.out A5 _ hS R5) ?_; rintro e w6 ⟨rfl, hxn⟩; refine ⟨_, rfl, hK.out _ _ (Ext.tr hS hxn) ?_⟩; intro hS; clear hxn hK; (try simp only [Act.put, List.setIfInBounds_toArray, List.set_cons_zero, List.set_cons_succ])
  refine takeD (some 30) (i := 15) (oi := ⟨some 30, _, _, _, _, _⟩) (v := .bool true) rfl rfl (by kernel_rfl) (by kernel_rfl) (by kernel_rfl) (fun _ _ _ h => h) (Or.inl ⟨by kernel_rfl, fun w hw => by go_simp⟩) hS ?_; (try simp only [Act.put, List.setIfInBounds_toArray, List.set_cons_zero, List.set_cons_succ])
  refine takeD (some 31) (i := 16) (oi := ⟨some 31, _, _, _, _, _⟩) (v := .bool true) rfl rfl (by kernel_rfl) (by kernel_rfl) (by kernel_rfl) (fun _ _ _ h => h) (Or.inl ⟨by kernel_rfl, fun w hw => by go_simp⟩) hS ?_; (try simp only [Act.put, List.setIfInBounds_toArray, List.set_cons_zero, List.set_cons_succ])
  refine takeD (some 32) (i := 17) (oi := ⟨some 32, _, _, _, _, _⟩) (v := .agg #[.int .i64 1, .int .i64 2, .int .i64 0, .int .i64 0, .int .i64 0, .slice A3 1 c3]) rfl rfl (by kernel_rfl) (by kernel_rfl) (by kernel_rfl) (fun _ _ _ h => h) (yields_row (by kernel_rfl) 25 (.tmp 3) rfl g3 25 #[.int .i64 1, .int .i64 2, .int .i64 0, .int .i64 0, .int .i64 0, .slice A3 1 c3] 6 rfl (fun w hw => BlkE b3 hw) mf_wide rfl) hS ?_; (try simp only [Act.put, List.setIfInBounds_toArray, List.set_cons_zero, List.set_cons_succ])
  refine wpAnyH_ready (rs := [18]) (by kernel_rfl) (by simp) (AllReadyH.cons (o := ⟨some 33, _, _, _, _, _⟩) rfl (fun K hK => ?_) AllReadyH.nil); refine step_callW (by kernel_rfl) (some 33) rfl 46 _ Tryz.func46 (by kernel_rfl) (by kernel_rfl) _ _ rfl #[.agg #[.int .i64 1, .int .i64 2, .int .i64 0, .int .i64 0, .int .i64 0, .slice A3 1 c3]] (by first | rfl | simp [Act.eval, Act.put]) _ (KZ.out _ hS) ?_; rintro e w7 ⟨rfl, hxn⟩; refine ⟨_, rfl, hK.out _ _ (Ext.tr hS hxn) ?_⟩; intro hS; clear hxn hK; (try simp only [Act.put, List.setIfInBounds_toArray, List.set_cons_zero, List.set_cons_succ])
  refine takeD (some 34) (i := 19) (oi := ⟨some 34, _, _, _, _, _⟩) (v := .bool true) rfl rfl (by kernel_rfl) (by kernel_rfl) (by kernel_rfl) (fun _ _ _ h => h) (Or.inl ⟨by kernel_rfl, fun w hw => by go_simp⟩) hS ?_; (try simp only [Act.put, List.setIfInBounds_toArray, List.set_cons_zero, List.set_cons_succ])
  refine takeD (some 35) (i := 20) (oi := ⟨some 35, _, _, _, _, _⟩) (v := .bool true) rfl rfl (by kernel_rfl) (by kernel_rfl) (by kernel_rfl) (fun _ _ _ h => h) (Or.inl ⟨by kernel_rfl, fun w hw => by go_simp⟩) hS ?_; (try simp only [Act.put, List.setIfInBounds_toArray, List.set_cons_zero, List.set_cons_succ])
  refine takeD (some 36) (i := 21) (oi := ⟨some 36, _, _, _, _, _⟩) (v := .bool true) rfl rfl (by kernel_rfl) (by kernel_rfl) (by kernel_rfl) (fun _ _ _ h => h) (Or.inl ⟨by kernel_rfl, fun w hw => by go_simp⟩) hS ?_; (try simp only [Act.put, List.setIfInBounds_toArray, List.set_cons_zero, List.set_cons_succ])
  refine takeD (some 37) (i := 22) (oi := ⟨some 37, _, _, _, _, _⟩) (v := .agg #[.int .i64 1, .int .i64 2, .int .i64 0, .int .i64 0, .int .i64 0, .slice A3 1 c3]) rfl rfl (by kernel_rfl) (by kernel_rfl) (by kernel_rfl) (fun _ _ _ h => h) (yields_row (by kernel_rfl) 25 (.tmp 3) rfl g3 25 #[.int .i64 1, .int .i64 2, .int .i64 0, .int .i64 0, .int .i64 0, .slice A3 1 c3] 6 rfl (fun w hw => BlkE b3 hw) mf_wide rfl) hS ?_; (try simp only [Act.put, List.setIfInBounds_toArray, List.set_cons_zero, List.set_cons_succ])
  refine wpAnyH_ready (rs := [23]) (by kernel_rfl) (by simp) (AllReadyH.cons (o := ⟨some 38, _, _, _, _, _⟩) rfl (fun K hK => ?_) AllReadyH.nil); refine step_callW (by kernel_rfl) (some 38) rfl 47 _ Tryz.func47 (by kernel_rfl) (by kernel_rfl) _ _ rfl #[.agg #[.int .i64 1, .int .i64 2, .int .i64 0, .int .i64 0, .int .i64 0, .slice A3 1 c3]] (by first | rfl | simp [Act.eval, Act.put]) _ (KV.out _ hS) ?_; rintro e w8 ⟨rfl, hxn⟩; refine ⟨_, rfl, hK.out _ _ (Ext.tr hS hxn) ?_⟩; intro hS; clear hxn hK; (try simp only [Act.put, List.setIfInBounds_toArray, List.set_cons_zero, List.set_cons_succ])
  refine takeD (some 39) (i := 24) (oi := ⟨some 39, _, _, _, _, _⟩) (v := .bool true) rfl rfl (by kernel_rfl) (by kernel_rfl) (by kernel_rfl) (fun _ _ _ h => h) (Or.inl ⟨by kernel_rfl, fun w hw => by go_simp⟩) hS ?_; (try simp only [Act.put, List.setIfInBounds_toArray, List.set_cons_zero, List.set_cons_succ])
  refine takeD (some 0) (i := 25) (oi := ⟨some 0, _, _, _, _, _⟩) (v := .bool true) rfl rfl (by kernel_rfl) (by kernel_rfl) (by kernel_rfl) (fun _ _ _ h => h) (Or.inl ⟨by kernel_rfl, fun w hw => by go_simp⟩) hS ?_; (try simp only [Act.put, List.setIfInBounds_toArray, List.set_cons_zero, List.set_cons_succ])
  refine wpAnyH_done (by kernel_rfl) ?_ _
  go_wp2_with fail
  go_ret
  exact ⟨rfl, HX4.out.tr hS⟩
end Go.Proofs.YtjajbbgebblalaaGreatDoor
