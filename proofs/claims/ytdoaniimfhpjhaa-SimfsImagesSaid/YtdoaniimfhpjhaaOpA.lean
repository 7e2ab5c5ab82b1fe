/-
  Calls as values (daybookref10.Op) in memory.
-/
import Derived.Test.YtdoaniimfhpjhaaFsV
import Derived.Test.YtdoaniimfhpjhaaOpenG
namespace Go.Proofs.Ytdoaniimfhpjhaa
open Go.RowKit
set_option linter.unusedVariables false
set_option linter.unusedSimpArgs false
structure Op10 where
  k : Int
  name : ByteArray
  tgt : ByteArray
  b : List UInt8
  n : Int
  m : Int
  keep : List Int
abbrev HO := Op10 × (Option Addr × Nat) × (Option Addr × Nat)
def opcells (h : HO) : Array Value := #[.int .i64 h.1.k, .string h.1.name, .string h.1.tgt, .slice h.2.1.1 h.1.b.length h.2.1.2, .int .i64 h.1.n, .int .i64 h.1.m, .slice h.2.2.1 h.1.keep.length h.2.2.2]
def OpOk (w : World) (h : HO) : Prop := (Rd w h.2.1.1 h.1.b.length (u8s h.1.b) ∧ h.1.b.length ≤ 140737488351232) ∧ (Rd w h.2.2.1 h.1.keep.length (ints h.1.keep) ∧ h.1.keep.length * 8 ≤ 140737488351232 ∧ ∀ x ∈ h.1.keep, IsI64 x) ∧ IsI64 h.1.k ∧ IsI64 h.1.n ∧ IsI64 h.1.m
theorem OpOk.ext {w w' : World} {h : HO} (ho : OpOk w h) (hx : Ext w w') : OpOk w' h := ⟨⟨ho.1.1.ext hx, ho.1.2⟩, ⟨ho.2.1.1.ext hx, ho.2.1.2⟩, ho.2.2⟩
def OpsRd (w : World) (A : Option Addr) (hs : List HO) : Prop := RdN w 7 A hs.length (hs.flatMap fun h => (opcells h).toList) ∧ ∀ h ∈ hs, OpOk w h
theorem OpsRd.ext {w w' : World} {A : Option Addr} {hs : List HO} (h : OpsRd w A hs) (hx : Ext w w') : OpsRd w' A hs := ⟨h.1.ext hx, fun g hg => (h.2 g hg).ext hx⟩
theorem op_at {w : World} {A : Option Addr} {hs : List HO} (h : OpsRd w A hs) {k : Nat} (hk : k < hs.length) :
    ∃ b o x, A = some ⟨b, o, none⟩ ∧ hs[k]? = some x ∧ w.rangeAt b (o + k * 7) (opcells x).toList ∧ OpOk w x := by
  obtain ⟨b, o, e, hc⟩ := h.1.2 (by omega)
  have hg : hs[k]? = some hs[k] := List.getElem?_eq_getElem hk
  refine ⟨b, o, hs[k], e, hg, fun j v hv => ?_, h.2 _ (List.getElem_mem _)⟩
  have hj : j < 7 := by
    have := (List.getElem?_eq_some_iff.1 hv).1
    simpa [opcells] using this
  rw [Nat.add_assoc]
  exact hc _ _ (by rw [flat_at (k := 7) _ (fun _ => rfl) hs k j _ hg hj]; exact hv)
theorem op_wide : Wide Try.prog 34 7 := ⟨⟨_, Try.underlying34, rfl⟩, by kernel_rfl⟩
theorem opcells_one (h : HO) : ∀ u ∈ (opcells h).toList, u.oneCell' = true := fun u hu => by
  simp only [opcells, List.mem_cons, List.not_mem_nil, or_false] at hu
  rcases hu with rfl | rfl | rfl | rfl | rfl | rfl | rfl <;> rfl
theorem opcells_size (h : HO) : (opcells h).size = 7 := rfl
def noOp : HO := (⟨0, ⟨#[]⟩, ⟨#[]⟩, [], 0, 0, []⟩, (none, 0), (none, 0))
theorem alloc_op (w : World) : (Instr.alloc 34 true (.tuple #[])).run Try.prog w = .ok (.pointer (some ⟨w.heap.size, 0, none⟩)) (w.alloc (.cells (opcells noOp) 34)) := by kernel_rfl
section
variable {w : World}
theorem wpL_load_op {ops : Array Oper} {rest : List Oper} {op : Oper} {a : Act} {Q : Exit → Act → World → Prop} (hgd : op.guard = none) (x : Operand) (ho : op.op = .load 34 x)
    (b o : Nat) (hx : a.eval x = .pointer (some ⟨b, o, none⟩)) (h : HO) (hc : w.rangeAt b o (opcells h).toList)
    (hK : wpList Try.prog ops Q rest (a.put op.dst (.agg (opcells h))) w) : wpList Try.prog ops Q (op :: rest) a w := by
  obtain ⟨⟨d, hu, hd⟩, hi⟩ := op_wide
  exact wpList_load_mid hgd 34 x ho b o hx (opcells h).toList d hc hu (by revert hd; cases d <;> simp [TypeDesc.isRow]) (by rw [Array.length_toList, opcells_size]; exact hi) hK
end
end Go.Proofs.Ytdoaniimfhpjhaa
