/-
  Steps of a region that draws its order: a whole struct loaded, a whole struct stored.
-/
import Derived.Test.YtjajbbgebblalaaGreatDoorBase
import Derived.RegionTactic
namespace Go.Proofs.YtjajbbgebblalaaGreatDoor
open Go.RowKit
set_option linter.unusedVariables false
set_option linter.unusedSimpArgs false
section
variable {P : Program} {w : World}
theorem step_load_row {ops : Array Oper} {o : Oper} {a : Act} {K : Act → World → Prop} {Q : Exit → Act → World → Prop} {E : Prop} (hgd : o.guard = none) (d : Option Tmp) (hd : o.dst = d) (ty : TypeId) (x : Operand) (ho : o.op = .load ty x)
    (g : Nat) (t : TypeId) (cs : Array Value) (n : Nat) (hx : a.eval x = .pointer (some ⟨g, 0, none⟩)) (hb : Blk w g t cs) (hw : Wide P ty n) (hn : cs.size = n) (hK : K (a.put d (.agg cs)) w) :
    if Region.wanted o (yielded ops a.tmps) = true then Oper.wp P o a w K Q else E := by
  subst hd
  have hwt : Region.wanted o (yielded ops a.tmps) = true := by simp [Region.wanted, hgd]
  rw [if_pos hwt]
  obtain ⟨⟨du, hu, hd⟩, hi⟩ := hw
  exact wp_load_row ty x ho g hx t cs (0, 0) du hb hu (by revert hd; cases du <;> simp) (by rw [hn]; exact hi) hK
theorem step_store_row {ops : Array Oper} {o : Oper} {a : Act} {K : Act → World → Prop} {Q : Exit → Act → World → Prop} {E : Prop} (hgd : o.guard = none) (d : Option Tmp) (hd : o.dst = d) (ty : TypeId) (x y : Operand) (ho : o.op = .store ty x y)
    (g : Nat) (t : TypeId) (cur cs : Array Value) (hx : a.eval x = .pointer (some ⟨g, 0, none⟩)) (hy : a.eval y = .agg cs) (hb : Blk w g t cur) (hsz : cs.size = cur.size) (h1 : ∀ v ∈ cs.toList, v.oneCell' = true) (n : Nat) (hw : Wide P ty n) (hn : cs.size = n)
    (hK : K (a.put d undef) (w.setRow g cs)) : if Region.wanted o (yielded ops a.tmps) = true then Oper.wp P o a w K Q else E := by
  subst hd
  have hwt : Region.wanted o (yielded ops a.tmps) = true := by simp [Region.wanted, hgd]
  rw [if_pos hwt]
  have hst := run_store_row (P := P) hb hsz h1
  subst hn
  have hi := hw.2
  obtain ⟨i, hi1, hi2⟩ := Option.map_eq_some_iff.1 hi
  have hsize : (sizeOf ty).run P w = .ok cs.size w := by simp [sizeOf, typeInfo, hi1, hi2]
  unfold Oper.wp execOp
  simp only [ho, hx, hy, Instr.storeAt, Instr.sureAddr, storeVar, Value.cells, Sem.run_bind, Sem.run_pure, Result.andThen_ok, hsize]
  simp [hst]
  exact hK
theorem run_loadVar_blk {g : Nat} {t ty : TypeId} {cs : Array Value} {n : Nat} (hb : Blk w g t cs) (hw : Wide P ty n) (hn : cs.size = n) : (loadVar ty ⟨g, 0, none⟩).run P w = .ok (.agg cs) w := by
  obtain ⟨⟨d, hu, hd⟩, hi⟩ := hw
  exact run_loadVar_row w g t ty cs (0, 0) d hb hu (by revert hd; cases d <;> simp) (by rw [hn]; exact hi)
theorem res_row2 {fn : Func} {p q : Tmp} {ty ty2 : TypeId} (h : fn.results = #[.cell p ty, .cell q ty2]) (tmps : Array Value) (g g2 : Nat) (t t2 : TypeId) (cs cs2 : Array Value) (n n2 : Nat)
    (hp : tmps.getD p undef = .pointer (some ⟨g, 0, none⟩)) (hq : tmps.getD q undef = .pointer (some ⟨g2, 0, none⟩)) (hb : Blk w g t cs) (hb2 : Blk w g2 t2 cs2) (hw : Wide P ty n) (hw2 : Wide P ty2 n2) (hn : cs.size = n) (hn2 : cs2.size = n2) :
    (results fn tmps).run P w = .ok (.tuple #[.agg cs, .agg cs2]) w := by
  have hp' : tmps[p]?.getD undef = .pointer (some ⟨g, 0, none⟩) := by simpa using hp
  have hq' : tmps[q]?.getD undef = .pointer (some ⟨g2, 0, none⟩) := by simpa using hq
  simp [results, h, hp', hq', asAddr, run_loadVar_blk hb hw hn, run_loadVar_blk hb2 hw2 hn2]
end
end Go.Proofs.YtjajbbgebblalaaGreatDoor
