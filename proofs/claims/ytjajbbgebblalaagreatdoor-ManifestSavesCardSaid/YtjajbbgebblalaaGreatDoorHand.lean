/-
  Laws for a region that draws its order and is walked by hand: loads are taken first while only blocks above are touched.
-/
/-
  Laws for a region that draws its order: a store of one number.
-/
import Derived.Test.YtjajbbgebblalaaGreatDoorSteps
import Derived.Test.YtjajbbgebblalaaGreatDoorLongP
import Derived.Deep.RegionHeld
import Derived.Calls
namespace Go.Proofs.YtjajbbgebblalaaGreatDoor
open Go.RowKit
set_option linter.unusedVariables false
set_option linter.unusedSimpArgs false
section
variable {P : Program} {w : World} {ops : Array Oper} {o : Oper} {a : Act} {K : Act → World → Prop} {Q : Exit → Act → World → Prop} {E : Prop}
theorem yields_row {S : World → Prop} (hwt : Region.wanted o (yielded ops a.tmps) = true) (ty : TypeId) (x : Operand) (ho : o.op = .load ty x)
    (g : Nat) (t : TypeId) (cs : Array Value) (n : Nat) (hx : a.eval x = .pointer (some ⟨g, 0, none⟩)) (hb : ∀ w, S w → Blk w g t cs) (hw : Wide P ty n) (hn : cs.size = n) : YieldsIf P ops S o (.agg cs) a :=
  .inl ⟨hwt, fun w hS => by
    unfold execOp
    simp only [ho, hx, Instr.loadAt, Instr.sureAddr, Sem.run_bind, Sem.run_pure, Result.andThen_ok, run_loadVar_blk (hb w hS) hw hn]⟩
variable {md : Region.Mode}
theorem takeD {S : World → Prop} {i : Nat} {oi : Oper} {v : Value} {fuel : Nat} {listed : Array Bool} (d : Option Tmp) (hi : ops[i]? = some oi) (hd : oi.dst = d)
    (hs : Region.noSelect ops = true) (hf : Region.free md ops listed i = true) (hr : (Region.ready md ops listed).contains i = true)
    (hQ : ∀ c a w, Q (.panic c) (a.put d v) w → Q (.panic c) a w) (hy : YieldsIf P ops S oi v a) (hS : S w)
    (h : wpAnyH P md ops Q S fuel (listed.setIfInBounds i true) (a.put d v) w) : wpAnyH P md ops Q S (fuel + 1) listed a w := by
  subst hd
  exact wpAnyH_take hi hs hf hr hQ hy hS h
theorem step_call (hgd : o.guard = none) (d : Option Tmp) (hd : o.dst = d) (f : FuncId) (fn : Func) (hf : P.funcs[f]? = some fn) (hnm : (fn.name == "runtime.NumGoroutine") = false) (hbd : fn.body.isNone = false) (args : Array Operand) (ats : Array TypeId) (ho : o.op = .call { callee := .value (.func f), args := args, argTypes := ats })
    (vals : Array Value) (hv : args.map a.eval = vals) (v : Value) (hc : Calls P f vals w fun e w' => e = .returned v ∧ Ext w w') (hK : ∀ w', Ext w w' → K (a.put d v) w') :
    if Region.wanted o (yielded ops a.tmps) = true then Oper.wp P o a w K Q else E := by
  subst hd
  have hwt : Region.wanted o (yielded ops a.tmps) = true := by simp [Region.wanted, hgd]
  rw [if_pos hwt]
  obtain ⟨dst, op, ty, pos, after, guard⟩ := o
  simp only at ho
  subst ho
  have hr : (execOp a.eval { dst, op := .call { callee := .value (.func f), args := args, argTypes := ats }, type := ty, pos, after, guard }).run P w = .ok (.enter f vals) w := by
    subst hv
    have h2 : (callFunc f (#[] ++ args.map a.eval ++ #[])).run P w = .ok (.enter f (args.map a.eval)) w := by
      have hnm' : ¬ fn.name = "runtime.NumGoroutine" := by simpa using hnm
      have hbd' : ¬ fn.body = none := by intro hc; rw [hc] at hbd; simp at hbd
      simp [callFunc, go_sem, hf, hnm', hbd']
    exact h2
  unfold Oper.wp
  rw [hr, Oper.upon_enter]
  refine hc.mono fun e w' ⟨he, hx⟩ => ?_
  subst he
  exact hK w' hx
theorem step_alloc (hgd : o.guard = none) (d : Option Tmp) (hd : o.dst = d) (t : TypeId) (ho : o.op = .alloc t) (z : Array Value)
    (hz : ∀ w, (Instr.alloc t true (.tuple #[])).run P w = .ok (.pointer (some ⟨w.heap.size, 0, none⟩)) (w.alloc (.cells z t)))
    (hK : ∀ g w', w.heap.size ≤ g → Ext w w' → Blk w' g t z → K (a.put d (.pointer (some ⟨g, 0, none⟩))) w') :
    if Region.wanted o (yielded ops a.tmps) = true then Oper.wp P o a w K Q else E := by
  subst hd
  have hwt : Region.wanted o (yielded ops a.tmps) = true := by simp [Region.wanted, hgd]
  rw [if_pos hwt]
  unfold Oper.wp execOp
  simp only [ho, Sem.run_bind, hz w, Result.andThen_ok, Sem.run_pure]
  exact hK _ _ (Nat.le_refl _) (ExtA (Ext.rfl' w)) (BlkN rfl)
theorem step_store (hgd : o.guard = none) (d : Option Tmp) (hd : o.dst = d) (ty : TypeId) (x y : Operand) (ho : o.op = .store ty x y)
    (g : Nat) (t : TypeId) (cur cs : Array Value) (hx : a.eval x = .pointer (some ⟨g, 0, none⟩)) (hy : a.eval y = .agg cs) (hb : Blk w g t cur) (hsz : cs.size = cur.size) (h1 : ∀ v ∈ cs.toList, v.oneCell' = true) (n : Nat) (hw : Wide P ty n) (hn : cs.size = n)
    (hK : ∀ w', Blk w' g t cs → (∀ g' t' cs', g' ≠ g → Blk w g' t' cs' → Blk w' g' t' cs') → (∀ b, b.heap.size ≤ g → Ext b w → Ext b w') → K (a.put d undef) w') :
    if Region.wanted o (yielded ops a.tmps) = true then Oper.wp P o a w K Q else E :=
  step_store_row hgd d hd ty x y ho g t cur cs hx hy hb hsz h1 n hw hn (hK _ (Blk.setRow_ hb) (fun g' t' cs' hne h => BlkR hne h) (fun b hg h => ExtR hg h))
end
theorem step_run {P : Program} {w : World} {ops : Array Oper} {o : Oper} {a : Act} {K : Act → World → Prop} {Q : Exit → Act → World → Prop} {E : Prop} (hgd : o.guard = none) (d : Option Tmp) (hd : o.dst = d) (v : Value) (w2 : World)
    (hr : (execOp a.eval o).run P w = .ok (.value v) w2) (hK : K (a.put d v) w2) : if Region.wanted o (yielded ops a.tmps) = true then Oper.wp P o a w K Q else E := by
  subst hd
  have hwt : Region.wanted o (yielded ops a.tmps) = true := by simp [Region.wanted, hgd]
  rw [if_pos hwt]
  unfold Oper.wp
  rw [hr]
  exact hK
end Go.Proofs.YtjajbbgebblalaaGreatDoor

namespace Go.Proofs.YtjajbbgebblalaaGreatDoor
open Go.RowKit
set_option linter.unusedVariables false
set_option linter.unusedSimpArgs false
section
variable {P : Program} {w : World} {ops : Array Oper} {o : Oper} {a : Act} {K : Act → World → Prop} {Q : Exit → Act → World → Prop} {E : Prop}
/-- A store of one number. -/
theorem step_storeN (hgd : o.guard = none) (d : Option Tmp) (hd : o.dst = d) (ty : TypeId) (x y : Operand) (ho : o.op = .store ty x y) (hi : (P.info? ty).map (·.size) = some 1)
    (ad : Addr) (k : IntKind) (n : Int) (u : Value) (hx : a.eval x = .pointer (some ad)) (hy : a.eval y = .int k n) (hc : w.cell? ad = some u) (hf : w.frozen? ad = false) (hK : K (a.put d undef) (w.setCell ad (.int k n))) :
    if Region.wanted o (yielded ops a.tmps) = true then Oper.wp P o a w K Q else E := by
  subst hd
  have hwt : Region.wanted o (yielded ops a.tmps) = true := by simp [Region.wanted, hgd]
  rw [if_pos hwt]
  obtain ⟨i, hi1, hi2⟩ := Option.map_eq_some_iff.1 hi
  have hsize : (sizeOf ty).run P w = .ok 1 w := by simp [sizeOf, typeInfo, hi1, hi2]
  unfold Oper.wp execOp
  simp only [ho, hx, hy, Instr.storeAt, Instr.sureAddr, storeVar, Value.cells, Sem.run_bind, Sem.run_pure, Result.andThen_ok, hsize]
  simp [storeCells, go_sem, hc, hf]
  exact hK
end
end Go.Proofs.YtjajbbgebblalaaGreatDoor
