/-
  A panic with an error's number; results that lie in memory.
-/
import Derived.Test.YtjajbbgebblalaaGreatDoorBytesW
import Derived.Deep.MidRow
namespace Go.Proofs.YtjajbbgebblalaaGreatDoor
open Go.RowKit
set_option linter.unusedVariables false
set_option linter.unusedSimpArgs false
def ErrPanic (e : Nat) : Ending := .panicked [{ v := .iface 32 (.int .i64 (e : Nat)), recovered := false }]
theorem load_cell {P : Program} {w : World} {ty : TypeId} {d : TypeDesc} {a : Addr} {v : Value} (hu : P.underlying ty = some d) (hd : d.isRow = false) (hc : w.cell? a = some v) : (loadVar ty a).run P w = .ok v w := by
  have hagg : (isAgg ty).run P w = .ok false w := by
    unfold isAgg
    rw [Sem.run_bind, run_underlying hu w]
    cases d <;> simp_all
  simp only [loadVar, Sem.run_bind, hagg, Result.andThen_ok, Bool.false_eq_true, if_false, run_load, hc]
theorem results_two {P : Program} {w : World} {fn : Func} {p q : Tmp} {t1 t2 : TypeId} {a1 a2 : Addr} {v1 v2 : Value} (h : fn.results = #[.cell p t1, .cell q t2]) (tmps : Array Value) (hp : tmps.getD p undef = .pointer (some a1)) (hq : tmps.getD q undef = .pointer (some a2))
    (h1 : (loadVar t1 a1).run P w = .ok v1 w) (h2 : (loadVar t2 a2).run P w = .ok v2 w) : (results fn tmps).run P w = .ok (.tuple #[v1, v2]) w := by
  have hp' : tmps[p]?.getD undef = .pointer (some a1) := by simpa using hp
  have hq' : tmps[q]?.getD undef = .pointer (some a2) := by simpa using hq
  simp [results, h, hp', hq', asAddr, h1, h2]
theorem results_ctc {P : Program} {w : World} {fn : Func} {p q u : Tmp} {t1 t2 : TypeId} {a1 a2 : Addr} {v1 v2 : Value} (h : fn.results = #[.cell p t1, .tmp u, .cell q t2]) (tmps : Array Value) (x : Value) (hu : tmps.getD u undef = x) (hp : tmps.getD p undef = .pointer (some a1)) (hq : tmps.getD q undef = .pointer (some a2))
    (h1 : (loadVar t1 a1).run P w = .ok v1 w) (h2 : (loadVar t2 a2).run P w = .ok v2 w) : (results fn tmps).run P w = .ok (.tuple #[v1, x, v2]) w := by
  have hp' : tmps[p]?.getD undef = .pointer (some a1) := by simpa using hp
  have hq' : tmps[q]?.getD undef = .pointer (some a2) := by simpa using hq
  have hu' : tmps[u]?.getD undef = x := by simpa using hu
  simp [results, h, hp', hq', hu', asAddr, h1, h2]
end Go.Proofs.YtjajbbgebblalaaGreatDoor
