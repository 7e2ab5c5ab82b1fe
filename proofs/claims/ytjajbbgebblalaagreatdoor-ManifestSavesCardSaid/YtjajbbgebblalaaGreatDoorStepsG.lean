/-
  Steps of a region that draws its order: a call by any contract. Slices of bytes: '[:k]', '[i:k:k]'.
-/
import Derived.Test.YtjajbbgebblalaaGreatDoorSteps
import Derived.Test.YtjajbbgebblalaaGreatDoorBytesX
import Derived.Calls
import Derived.Deep.RegionHeld3
import Derived.Laws.Cover3
namespace Go.Proofs.YtjajbbgebblalaaGreatDoor
open Go.RowKit
set_option linter.unusedVariables false
set_option linter.unusedSimpArgs false
theorem step_callG {P : Program} {w : World} {ops : Array Oper} {o : Oper} {a : Act} {K : Act → World → Prop} {Q : Exit → Act → World → Prop} {E : Prop}
    (hgd : o.guard = none) (d : Option Tmp) (hd : o.dst = d) (f : FuncId) (fn : Func) (hf : P.funcs[f]? = some fn) (hnm : (fn.name == "runtime.NumGoroutine") = false) (hbd : fn.body.isNone = false) (args : Array Operand) (ats : Array TypeId) (ho : o.op = .call { callee := .value (.func f), args := args, argTypes := ats })
    (vals : Array Value) (hv : args.map a.eval = vals) (R : Ending → World → Prop) (hc : Calls P f vals w R) (hK : ∀ e w', R e w' → ∃ v, e = .returned v ∧ K (a.put d v) w') :
    if Region.wanted o (yielded ops a.tmps) = true then Oper.wp P o a w K Q else E := by
  subst hd
  have hwt : Region.wanted o (yielded ops a.tmps) = true := by simp [Region.wanted, hgd]
  rw [if_pos hwt]
  obtain ⟨dst, op, ty, pos, after, guard⟩ := o
  simp only at ho
  subst ho
  have hr : (execOp a.eval { dst, op := .call { callee := .value (.func f), args := args, argTypes := ats }, type := ty, pos, after, guard }).run P w = .ok (.enter f vals) w := by
    subst hv
    have h2 : (callFunc f (#[] ++ args.map a.eval ++ #[])).run P w = .ok (.enter f (args.map a.eval)) w := by
      have hnm' : ¬ fn.name = "runtime.NumGoroutine" := by simpa using hnm
      have hbd' : ¬ fn.body = none := by intro hc; rw [hc] at hbd; simp at hbd
      simp [callFunc, go_sem, hf, hnm', hbd']
    exact h2
  unfold Oper.wp
  rw [hr, Oper.upon_enter]
  refine hc.mono fun e w' h => ?_
  obtain ⟨v, rfl, hk⟩ := hK e w' h
  exact hk
/-- 's[:hi]'. -/
theorem slice_hi (A : Option Addr) (n c k : Nat) (hk : k ≤ n) (hc : n ≤ c) :
    ∃ A', (∀ W : World, (Instr.slice 36 (.slice A n c) none (some (.int .i64 (k : Nat))) none).run Tryz.prog W = .ok (.slice A' k c) W) ∧ ∀ (W : World) (l : List UInt8), Rd W A n (u8s l) → Rd W A' k (u8s (l.take k)) := by
  refine ⟨if c = 0 then A else A.map (·.add (0 * 1)), fun W => ?_, fun W l hr => ?_⟩
  · rw [run_slice_h W 36 A n c elem_u8 .i64 k (by omega) (by omega), size_u8, Result.andThen_ok]
    simp [sliced]
  · refine ⟨by have := hr.1; rw [u8s_len] at this; rw [u8s_len]; simp; omega, fun h0 => ?_⟩
    obtain ⟨b, o, rfl, hcell⟩ := hr.2 (by omega)
    rw [if_neg (by omega)]
    refine ⟨b, o, by simp [Addr.add], fun j u hu => hcell j u ?_⟩
    rw [u8s_take] at hu
    have hj := (List.getElem?_eq_some_iff.1 hu).1
    rw [List.getElem?_take] at hu
    split at hu
    · exact hu
    · cases hu
/-- 's[lo:hi:hi]'. -/
theorem slice_lhh (A : Option Addr) (n c i k : Nat) (h : i ≤ k) (hk : k ≤ n) (hc : n ≤ c) :
    ∃ A', (∀ W : World, (Instr.slice 36 (.slice A n c) (some (.int .i64 (i : Nat))) (some (.int .i64 (k : Nat))) (some (.int .i64 (k : Nat)))).run Tryz.prog W = .ok (.slice A' (k - i) (k - i)) W) ∧ ∀ (W : World) (l : List UInt8), Rd W A n (u8s l) → Rd W A' (k - i) (u8s ((l.drop i).take (k - i))) := by
  refine ⟨if k = i then A else A.map (·.add (i * 1)), fun W => ?_, fun W l hr => ?_⟩
  · rw [run_slice_lhm W 36 A n c elem_u8 .i64 .i64 .i64 i k k (by omega) (by omega) (by omega) (by omega), size_u8, Result.andThen_ok]
    simp [sliced]
  · refine ⟨by have := hr.1; rw [u8s_len] at this; rw [u8s_len]; simp; omega, fun h0 => ?_⟩
    obtain ⟨b, o, rfl, hcell⟩ := hr.2 (by omega)
    rw [if_neg (by omega)]
    have ha : (⟨b, o, none⟩ : Addr).add (i * 1) = ⟨b, o + i, none⟩ := by by_cases h : i = 0 <;> simp [Addr.add, h]
    rw [Nat.mul_one] at ha
    refine ⟨b, o + i, by simp [ha], fun j u hu => ?_⟩
    rw [Nat.add_assoc]
    refine hcell (i + j) u ?_
    have hj : j < k - i := by
      have := (List.getElem?_eq_some_iff.1 hu).1
      rw [u8s_len] at this
      simp at this
      omega
    rw [u8s_take, u8s_drop, List.getElem?_take, if_pos hj, List.getElem?_drop] at hu
    exact hu
theorem rd_four {w : World} {A : Option Addr} {l : List UInt8} (h : Rd w A 4 (u8s l)) : ∃ b o x0 x1 x2 x3, A = some ⟨b, o, none⟩ ∧ l = [x0, x1, x2, x3] ∧ w.cell? ⟨b, o, none⟩ = some (.int .u8 (x0.toNat : Nat)) ∧ w.cell? ⟨b, o + 1, none⟩ = some (.int .u8 (x1.toNat : Nat)) ∧ w.cell? ⟨b, o + 2, none⟩ = some (.int .u8 (x2.toNat : Nat)) ∧ w.cell? ⟨b, o + 3, none⟩ = some (.int .u8 (x3.toNat : Nat)) := by
  obtain ⟨b, o, hA, hc⟩ := h.2 (by decide)
  have hl := h.1
  rw [u8s_len] at hl
  match l, hl with
  | [x0, x1, x2, x3], _ => exact ⟨b, o, x0, x1, x2, x3, hA, rfl, hc 0 _ rfl, hc 1 _ rfl, hc 2 _ rfl, hc 3 _ rfl⟩
theorem results_tmp4 {fn : Func} {t u v x : Tmp} (h : fn.results = #[.tmp t, .tmp u, .tmp v, .tmp x]) (tmps : Array Value) (P : Program) (w : World) :
    (results fn tmps).run P w = .ok (.tuple #[tmps.getD t undef, tmps.getD u undef, tmps.getD v undef, tmps.getD x undef]) w := by
  simp [results, h]
end Go.Proofs.YtjajbbgebblalaaGreatDoor
