/-
  Laws for a region that draws its order and is walked by hand: loads are taken first while only blocks above are touched.
-/
/-
  Laws for a region that draws its order: a store of one number.
-/
/-
  Steps of a region that draws its order: a call by any contract. Slices of bytes: '[:k]', '[i:k:k]'.
-/
/-
  A struct result in memory with a plain one beside it.
-/
import Derived.Test.YtjajbbgebblalaaGreatDoorSteps
import Derived.Test.YtjajbbgebblalaaGreatDoorLongP
import Derived.Deep.RegionHeld
import Derived.Calls
import Derived.Test.YtjajbbgebblalaaGreatDoorBytesW
import Derived.Deep.RegionHeld3
import Derived.Laws.Cover3
namespace Go.Proofs.YtjajbbgebblalaaGreatDoor
open Go.RowKit
set_option linter.unusedVariables false
set_option linter.unusedSimpArgs false
section
variable {P : Program} {w : World} {ops : Array Oper} {o : Oper} {a : Act} {K : Act → World → Prop} {Q : Exit → Act → World → Prop} {E : Prop}
theorem yields_row {S : World → Prop} (hwt : Region.wanted o (yielded ops a.tmps) = true) (ty : TypeId) (x : Operand) (ho : o.op = .load ty x)
    (g : Nat) (t : TypeId) (cs : Array Value) (n : Nat) (hx : a.eval x = .pointer (some ⟨g, 0, none⟩)) (hb : ∀ w, S w → Blk w g t cs) (hw : Wide P ty n) (hn : cs.size = n) : YieldsIf P ops S o (.agg cs) a :=
  .inl ⟨hwt, fun w hS => by
    unfold execOp
    simp only [ho, hx, Instr.loadAt, Instr.sureAddr, Sem.run_bind, Sem.run_pure, Result.andThen_ok, run_loadVar_blk (hb w hS) hw hn]⟩
variable {md : Region.Mode}
theorem takeD {S : World → Prop} {i : Nat} {oi : Oper} {v : Value} {fuel : Nat} {listed : Array Bool} (d : Option Tmp) (hi : ops[i]? = some oi) (hd : oi.dst = d)
    (hs : Region.noSelect ops = true) (hf : Region.free md ops listed i = true) (hr : (Region.ready md ops listed).contains i = true)
    (hQ : ∀ c a w, Q (.panic c) (a.put d v) w → Q (.panic c) a w) (hy : YieldsIf P ops S oi v a) (hS : S w)
    (h : wpAnyH P md ops Q S fuel (listed.setIfInBounds i true) (a.put d v) w) : wpAnyH P md ops Q S (fuel + 1) listed a w := by
  subst hd
  exact wpAnyH_take hi hs hf hr hQ hy hS h
theorem step_call (hgd : o.guard = none) (d : Option Tmp) (hd : o.dst = d) (f : FuncId) (fn : Func) (hf : P.funcs[f]? = some fn) (hnm : (fn.name == "runtime.NumGoroutine") = false) (hbd : fn.body.isNone = false) (args : Array Operand) (ats : Array TypeId) (ho : o.op = .call { callee := .value (.func f), args := args, argTypes := ats })
    (vals : Array Value) (hv : args.map a.eval = vals) (v : Value) (hc : Calls P f vals w fun e w' => e = .returned v ∧ Ext w w') (hK : ∀ w', Ext w w' → K (a.put d v) w') :
    if Region.wanted o (yielded ops a.tmps) = true then Oper.wp P o a w K Q else E := by
  subst hd
  have hwt : Region.wanted o (yielded ops a.tmps) = true := by simp [Region.wanted, hgd]
  rw [if_pos hwt]
  obtain ⟨dst, op, ty, pos, after, guard⟩ := o
  simp only at ho
  subst ho
  have hr : (execOp a.eval { dst, op := .call { callee := .value (.func f), args := args, argTypes := ats }, type := ty, pos, after, guard }).run P w = .ok (.enter f vals) w := by
    subst hv
    have h2 : (callFunc f (#[] ++ args.map a.eval ++ #[])).run P w = .ok (.enter f (args.map a.eval)) w := by
      have hnm' : ¬ fn.name = "runtime.NumGoroutine" := by simpa using hnm
      have hbd' : ¬ fn.body = none := by intro hc; rw [hc] at hbd; simp at hbd
      simp [callFunc, go_sem, hf, hnm', hbd']
    exact h2
  unfold Oper.wp
  rw [hr, Oper.upon_enter]
  refine hc.mono fun e w' ⟨he, hx⟩ => ?_
  subst he
  exact hK w' hx
theorem step_alloc (hgd : o.guard = none) (d : Option Tmp) (hd : o.dst = d) (t : TypeId) (ho : o.op = .alloc t) (z : Array Value)
    (hz : ∀ w, (Instr.alloc t true (.tuple #[])).run P w = .ok (.pointer (some ⟨w.heap.size, 0, none⟩)) (w.alloc (.cells z t)))
    (hK : ∀ g w', w.heap.size ≤ g → Ext w w' → Blk w' g t z → K (a.put d (.pointer (some ⟨g, 0, none⟩))) w') :
    if Region.wanted o (yielded ops a.tmps) = true then Oper.wp P o a w K Q else E := by
  subst hd
  have hwt : Region.wanted o (yielded ops a.tmps) = true := by simp [Region.wanted, hgd]
  rw [if_pos hwt]
  unfold Oper.wp execOp
  simp only [ho, Sem.run_bind, hz w, Result.andThen_ok, Sem.run_pure]
  exact hK _ _ (Nat.le_refl _) (ExtA (Ext.rfl' w)) (BlkN rfl)
theorem step_store (hgd : o.guard = none) (d : Option Tmp) (hd : o.dst = d) (ty : TypeId) (x y : Operand) (ho : o.op = .store ty x y)
    (g : Nat) (t : TypeId) (cur cs : Array Value) (hx : a.eval x = .pointer (some ⟨g, 0, none⟩)) (hy : a.eval y = .agg cs) (hb : Blk w g t cur) (hsz : cs.size = cur.size) (h1 : ∀ v ∈ cs.toList, v.oneCell' = true) (n : Nat) (hw : Wide P ty n) (hn : cs.size = n)
    (hK : ∀ w', Blk w' g t cs → (∀ g' t' cs', g' ≠ g → Blk w g' t' cs' → Blk w' g' t' cs') → (∀ b, b.heap.size ≤ g → Ext b w → Ext b w') → K (a.put d undef) w') :
    if Region.wanted o (yielded ops a.tmps) = true then Oper.wp P o a w K Q else E :=
  step_store_row hgd d hd ty x y ho g t cur cs hx hy hb hsz h1 n hw hn (hK _ (Blk.setRow_ hb) (fun g' t' cs' hne h => BlkR hne h) (fun b hg h => ExtR hg h))
end
theorem step_run {P : Program} {w : World} {ops : Array Oper} {o : Oper} {a : Act} {K : Act → World → Prop} {Q : Exit → Act → World → Prop} {E : Prop} (hgd : o.guard = none) (d : Option Tmp) (hd : o.dst = d) (v : Value) (w2 : World)
    (hr : (execOp a.eval o).run P w = .ok (.value v) w2) (hK : K (a.put d v) w2) : if Region.wanted o (yielded ops a.tmps) = true then Oper.wp P o a w K Q else E := by
  subst hd
  have hwt : Region.wanted o (yielded ops a.tmps) = true := by simp [Region.wanted, hgd]
  rw [if_pos hwt]
  unfold Oper.wp
  rw [hr]
  exact hK
end Go.Proofs.YtjajbbgebblalaaGreatDoor

namespace Go.Proofs.YtjajbbgebblalaaGreatDoor
open Go.RowKit
set_option linter.unusedVariables false
set_option linter.unusedSimpArgs false
section
variable {P : Program} {w : World} {ops : Array Oper} {o : Oper} {a : Act} {K : Act → World → Prop} {Q : Exit → Act → World → Prop} {E : Prop}
/-- A store of one number. -/
theorem step_storeN (hgd : o.guard = none) (d : Option Tmp) (hd : o.dst = d) (ty : TypeId) (x y : Operand) (ho : o.op = .store ty x y) (hi : (P.info? ty).map (·.size) = some 1)
    (ad : Addr) (k : IntKind) (n : Int) (u : Value) (hx : a.eval x = .pointer (some ad)) (hy : a.eval y = .int k n) (hc : w.cell? ad = some u) (hf : w.frozen? ad = false) (hK : K (a.put d undef) (w.setCell ad (.int k n))) :
    if Region.wanted o (yielded ops a.tmps) = true then Oper.wp P o a w K Q else E := by
  subst hd
  have hwt : Region.wanted o (yielded ops a.tmps) = true := by simp [Region.wanted, hgd]
  rw [if_pos hwt]
  obtain ⟨i, hi1, hi2⟩ := Option.map_eq_some_iff.1 hi
  have hsize : (sizeOf ty).run P w = .ok 1 w := by simp [sizeOf, typeInfo, hi1, hi2]
  unfold Oper.wp execOp
  simp only [ho, hx, hy, Instr.storeAt, Instr.sureAddr, storeVar, Value.cells, Sem.run_bind, Sem.run_pure, Result.andThen_ok, hsize]
  simp [storeCells, go_sem, hc, hf]
  exact hK
end
end Go.Proofs.YtjajbbgebblalaaGreatDoor

namespace Go.Proofs.YtjajbbgebblalaaGreatDoor
open Go.RowKit
set_option linter.unusedVariables false
set_option linter.unusedSimpArgs false
theorem step_callG {P : Program} {w : World} {ops : Array Oper} {o : Oper} {a : Act} {K : Act → World → Prop} {Q : Exit → Act → World → Prop} {E : Prop}
    (hgd : o.guard = none) (d : Option Tmp) (hd : o.dst = d) (f : FuncId) (fn : Func) (hf : P.funcs[f]? = some fn) (hnm : (fn.name == "runtime.NumGoroutine") = false) (hbd : fn.body.isNone = false) (args : Array Operand) (ats : Array TypeId) (ho : o.op = .call { callee := .value (.func f), args := args, argTypes := ats })
    (vals : Array Value) (hv : args.map a.eval = vals) (R : Ending → World → Prop) (hc : Calls P f vals w R) (hK : ∀ e w', R e w' → ∃ v, e = .returned v ∧ K (a.put d v) w') :
    if Region.wanted o (yielded ops a.tmps) = true then Oper.wp P o a w K Q else E := by
  subst hd
  have hwt : Region.wanted o (yielded ops a.tmps) = true := by simp [Region.wanted, hgd]
  rw [if_pos hwt]
  obtain ⟨dst, op, ty, pos, after, guard⟩ := o
  simp only at ho
  subst ho
  have hr : (execOp a.eval { dst, op := .call { callee := .value (.func f), args := args, argTypes := ats }, type := ty, pos, after, guard }).run P w = .ok (.enter f vals) w := by
    subst hv
    have h2 : (callFunc f (#[] ++ args.map a.eval ++ #[])).run P w = .ok (.enter f (args.map a.eval)) w := by
      have hnm' : ¬ fn.name = "runtime.NumGoroutine" := by simpa using hnm
      have hbd' : ¬ fn.body = none := by intro hc; rw [hc] at hbd; simp at hbd
      simp [callFunc, go_sem, hf, hnm', hbd']
    exact h2
  unfold Oper.wp
  rw [hr, Oper.upon_enter]
  refine hc.mono fun e w' h => ?_
  obtain ⟨v, rfl, hk⟩ := hK e w' h
  exact hk
/-- 's[:hi]'. -/
theorem slice_hi (A : Option Addr) (n c k : Nat) (hk : k ≤ n) (hc : n ≤ c) :
    ∃ A', (∀ W : World, (Instr.slice 36 (.slice A n c) none (some (.int .i64 (k : Nat))) none).run Tryz.prog W = .ok (.slice A' k c) W) ∧ ∀ (W : World) (l : List UInt8), Rd W A n (u8s l) → Rd W A' k (u8s (l.take k)) := by
  refine ⟨if c = 0 then A else A.map (·.add (0 * 1)), fun W => ?_, fun W l hr => ?_⟩
  · rw [run_slice_h W 36 A n c elem_u8 .i64 k (by omega) (by omega), size_u8, Result.andThen_ok]
    simp [sliced]
  · refine ⟨by have := hr.1; rw [u8s_len] at this; rw [u8s_len]; simp; omega, fun h0 => ?_⟩
    obtain ⟨b, o, rfl, hcell⟩ := hr.2 (by omega)
    rw [if_neg (by omega)]
    refine ⟨b, o, by simp [Addr.add], fun j u hu => hcell j u ?_⟩
    rw [u8s_take] at hu
    have hj := (List.getElem?_eq_some_iff.1 hu).1
    rw [List.getElem?_take] at hu
    split at hu
    · exact hu
    · cases hu
/-- 's[lo:hi:hi]'. -/
theorem slice_lhh (A : Option Addr) (n c i k : Nat) (h : i ≤ k) (hk : k ≤ n) (hc : n ≤ c) :
    ∃ A', (∀ W : World, (Instr.slice 36 (.slice A n c) (some (.int .i64 (i : Nat))) (some (.int .i64 (k : Nat))) (some (.int .i64 (k : Nat)))).run Tryz.prog W = .ok (.slice A' (k - i) (k - i)) W) ∧ ∀ (W : World) (l : List UInt8), Rd W A n (u8s l) → Rd W A' (k - i) (u8s ((l.drop i).take (k - i))) := by
  refine ⟨if k = i then A else A.map (·.add (i * 1)), fun W => ?_, fun W l hr => ?_⟩
  · rw [run_slice_lhm W 36 A n c elem_u8 .i64 .i64 .i64 i k k (by omega) (by omega) (by omega) (by omega), size_u8, Result.andThen_ok]
    simp [sliced]
  · refine ⟨by have := hr.1; rw [u8s_len] at this; rw [u8s_len]; simp; omega, fun h0 => ?_⟩
    obtain ⟨b, o, rfl, hcell⟩ := hr.2 (by omega)
    rw [if_neg (by omega)]
    have ha : (⟨b, o, none⟩ : Addr).add (i * 1) = ⟨b, o + i, none⟩ := by by_cases h : i = 0 <;> simp [Addr.add, h]
    rw [Nat.mul_one] at ha
    refine ⟨b, o + i, by simp [ha], fun j u hu => ?_⟩
    rw [Nat.add_assoc]
    refine hcell (i + j) u ?_
    have hj : j < k - i := by
      have := (List.getElem?_eq_some_iff.1 hu).1
      rw [u8s_len] at this
      simp at this
      omega
    rw [u8s_take, u8s_drop, List.getElem?_take, if_pos hj, List.getElem?_drop] at hu
    exact hu
theorem rd_four {w : World} {A : Option Addr} {l : List UInt8} (h : Rd w A 4 (u8s l)) : ∃ b o x0 x1 x2 x3, A = some ⟨b, o, none⟩ ∧ l = [x0, x1, x2, x3] ∧ w.cell? ⟨b, o, none⟩ = some (.int .u8 (x0.toNat : Nat)) ∧ w.cell? ⟨b, o + 1, none⟩ = some (.int .u8 (x1.toNat : Nat)) ∧ w.cell? ⟨b, o + 2, none⟩ = some (.int .u8 (x2.toNat : Nat)) ∧ w.cell? ⟨b, o + 3, none⟩ = some (.int .u8 (x3.toNat : Nat)) := by
  obtain ⟨b, o, hA, hc⟩ := h.2 (by decide)
  have hl := h.1
  rw [u8s_len] at hl
  match l, hl with
  | [x0, x1, x2, x3], _ => exact ⟨b, o, x0, x1, x2, x3, hA, rfl, hc 0 _ rfl, hc 1 _ rfl, hc 2 _ rfl, hc 3 _ rfl⟩
theorem results_tmp4 {fn : Func} {t u v x : Tmp} (h : fn.results = #[.tmp t, .tmp u, .tmp v, .tmp x]) (tmps : Array Value) (P : Program) (w : World) :
    (results fn tmps).run P w = .ok (.tuple #[tmps.getD t undef, tmps.getD u undef, tmps.getD v undef, tmps.getD x undef]) w := by
  simp [results, h]
end Go.Proofs.YtjajbbgebblalaaGreatDoor

namespace Go.Proofs.YtjajbbgebblalaaGreatDoor
open Go.RowKit
set_option linter.unusedVariables false
set_option linter.unusedSimpArgs false
theorem res_row_t {P : Program} {w : World} {fn : Func} {p u : Tmp} {ty : TypeId} (h : fn.results = #[.cell p ty, .tmp u]) (tmps : Array Value) (g : Nat) (t : TypeId) (cs : Array Value) (n : Nat) (x : Value)
    (hp : tmps.getD p undef = .pointer (some ⟨g, 0, none⟩)) (hu : tmps.getD u undef = x) (hb : Blk w g t cs) (hw : Wide P ty n) (hn : cs.size = n) : (results fn tmps).run P w = .ok (.tuple #[.agg cs, x]) w := by
  have hp' : tmps[p]?.getD undef = .pointer (some ⟨g, 0, none⟩) := by simpa using hp
  have hu' : tmps[u]?.getD undef = x := by simpa using hu
  simp [results, h, hp', hu', asAddr, run_loadVar_blk hb hw hn]
end Go.Proofs.YtjajbbgebblalaaGreatDoor
