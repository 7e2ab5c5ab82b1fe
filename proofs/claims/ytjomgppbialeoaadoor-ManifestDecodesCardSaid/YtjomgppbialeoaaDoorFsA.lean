/-
  The walks of the reference's Alike and Plain.
-/
import Derived.Test.YtjomgppbialeoaaDoorFsW
namespace Go.Proofs.YtjomgppbialeoaaDoor
open Go.RowKit
set_option linter.unusedVariables false
set_option linter.unusedSimpArgs false
theorem quiet_add {P : Program} {f : FuncId} {args : Array Value} {w : World} {a n : Nat} {v : Value}
    (h : Calls P f args (w.drewN (a + n)) fun e w' => e = .returned v ∧ ∃ m, w' = (w.drewN (a + n)).drewN m) :
    Calls P f args (w.drewN (a + n)) fun e w'' => e = .returned v ∧ ∃ m, w'' = w.drewN (a + m) :=
  h.mono fun _ _ ⟨he, m, hm⟩ => ⟨he, n + m, by rw [hm, World.drewN_drewN, Nat.add_assoc]⟩
def AlikeR (W : World) (n : Nat) (i : Value) (wr : World) : Prop := ∃ k : Nat, k ≤ n ∧ i = .int .i64 k ∧ Ext W wr
theorem strip_eq {f g : Fld} (h : strip f = strip g) : f.tag = g.tag ∧ f.text = g.text ∧ (f.text = true → f.bytes = g.bytes) ∧ (f.text = false → f.num = g.num) := by
  obtain ⟨t1, x1, n1, b1⟩ := f
  obtain ⟨t2, x2, n2, b2⟩ := g
  simp only [strip, Fld.mk.injEq] at h
  obtain ⟨h1, h2, h3, h4⟩ := h
  subst h1 h2
  cases x1 <;> simp_all
end Go.Proofs.YtjomgppbialeoaaDoor
