/-
  Laws for a region that draws its order: a store of one number.
-/
import Derived.Test.YtdoaniimfhpjhaaHand
namespace Go.Proofs.Ytdoaniimfhpjhaa
open Go.RowKit
set_option linter.unusedVariables false
set_option linter.unusedSimpArgs false
section
variable {P : Program} {w : World} {ops : Array Oper} {o : Oper} {a : Act} {K : Act → World → Prop} {Q : Exit → Act → World → Prop} {E : Prop}
/-- A store of one number. -/
theorem step_storeN (hgd : o.guard = none) (d : Option Tmp) (hd : o.dst = d) (ty : TypeId) (x y : Operand) (ho : o.op = .store ty x y) (hi : (P.info? ty).map (·.size) = some 1)
    (ad : Addr) (k : IntKind) (n : Int) (u : Value) (hx : a.eval x = .pointer (some ad)) (hy : a.eval y = .int k n) (hc : w.cell? ad = some u) (hf : w.frozen? ad = false) (hK : K (a.put d undef) (w.setCell ad (.int k n))) :
    if Region.wanted o (yielded ops a.tmps) = true then Oper.wp P o a w K Q else E := by
  subst hd
  have hwt : Region.wanted o (yielded ops a.tmps) = true := by simp [Region.wanted, hgd]
  rw [if_pos hwt]
  obtain ⟨i, hi1, hi2⟩ := Option.map_eq_some_iff.1 hi
  have hsize : (sizeOf ty).run P w = .ok 1 w := by simp [sizeOf, typeInfo, hi1, hi2]
  unfold Oper.wp execOp
  simp only [ho, hx, hy, Instr.storeAt, Instr.sureAddr, storeVar, Value.cells, Sem.run_bind, Sem.run_pure, Result.andThen_ok, hsize]
  simp [storeCells, go_sem, hc, hf]
  exact hK
end
end Go.Proofs.Ytdoaniimfhpjhaa
