/-
  The walk of the reference's Decode of manifests.
-/
import Derived.Test.YtdoaniimfhpjhaaDoorManE
import Derived.Test.YtdoaniimfhpjhaaDoorFrmD
import Derived.Test.YtdoaniimfhpjhaaDoorHand
namespace Go.Proofs.YtdoaniimfhpjhaaDoor
open Go.RowKit
set_option linter.unusedVariables false
set_option linter.unusedSimpArgs false
/-- What Decode answers, in memory. -/
def MdPost (w : World) (r : Mf × Nat) (e : Ending) (w' : World) : Prop :=
  ∃ A c, e = .returned (.tuple #[.agg (mfcells r.1 A c), .int .i64 (r.2 : Nat)]) ∧ Ext w w' ∧ OwnSg w' w.heap.size A r.1.segs c
theorem md_bad {w w' : World} {r : Mf × Nat} {e : Ending} (h : r = (noMf, 80)) (he : e = .returned (.tuple #[.agg (mfcells noMf none 0), .int .i64 80])) (hx : Ext w w') : MdPost w r e w' := by
  subst h
  exact ⟨none, 0, he, hx, World.ownsRow_nil _ _ _ _⟩
theorem manR_def (b : List UInt8) : manR b = (if (fdec b).2.2 ≠ 0 ∨ (fdec b).2.1 ≠ b.length then (noMf, 80)
  else if (vsdec (fdec b).1.2.2 1028).2.2 ≠ 0 ∨ (vsdec (fdec b).1.2.2 1028).1.length < 4 ∨ ∃ u ∈ (vsdec (fdec b).1.2.2 1028).1, 2199023255552 < u then (noMf, 80)
  else if (manE (manOf (fdec b).1.2.1 (vsdec (fdec b).1.2.2 1028).1)).2 ≠ 0 ∨ (manE (manOf (fdec b).1.2.1 (vsdec (fdec b).1.2.2 1028).1)).1 ≠ b then (noMf, 80)
  else (manOf (fdec b).1.2.1 (vsdec (fdec b).1.2.2 1028).1, 0)) := rfl
theorem alloc_mf (w : World) : (Instr.alloc 24 true (.tuple #[])).run Tryd.prog w = .ok (.pointer (some ⟨w.heap.size, 0, none⟩)) (w.alloc (.cells #[.int .i64 0, .int .i64 0, .int .i64 0, .int .i64 0, .int .i64 0, .slice none 0 0] 24)) := by kernel_rfl
theorem step_store1 {w : World} {ops : Array Oper} {o : Oper} {a : Act} {K : Act → World → Prop} {Q : Exit → Act → World → Prop} {E : Prop} (hgd : o.guard = none) (d : Option Tmp) (hd : o.dst = d) (x y : Operand) (ho : o.op = .store 22 x y) {g i n c : Nat} {B : Option Addr} {old : Value}
    (hx : a.eval x = .pointer (some ⟨g, i, none⟩)) (hy : a.eval y = .slice B n c) (hc : w.cell? ⟨g, i, none⟩ = some old) (hf : w.frozen? ⟨g, i, none⟩ = false) (hK : K (a.put d undef) (w.setCell ⟨g, i, none⟩ (.slice B n c))) : if Region.wanted o (yielded ops a.tmps) = true then Oper.wp Tryd.prog o a w K Q else E := by
  subst hd
  have hwt : Region.wanted o (yielded ops a.tmps) = true := by simp [Region.wanted, hgd]
  rw [if_pos hwt]
  have hr : (execOp a.eval o).run Tryd.prog w = .ok .skip (w.setCell ⟨g, i, none⟩ (.slice B n c)) := by
    unfold execOp
    simp only [ho, hx, hy]
    go_simp
  unfold Oper.wp
  rw [hr]
  exact hK
theorem segsOf_len (us : List Nat) : (segsOf us).length = us.length / 4 := by
  match us with
  | [] => rfl
  | [_] => simp [segsOf]
  | [_, _] => simp [segsOf]
  | [_, _, _] => simp [segsOf]
  | a :: b :: c :: d :: r =>
    have ih := segsOf_len r
    show (segsOf r).length + 1 = (r.length + 1 + 1 + 1 + 1) / 4
    omega
theorem segsOf_get (us : List Nat) (j : Nat) (h : j < (segsOf us).length) : (segsOf us)[j]? = some ⟨us.getD (4 * j) 0, us.getD (4 * j + 1) 0, us.getD (4 * j + 2) 0, us.getD (4 * j + 3) 0⟩ := by
  match us, j with
  | [], _ => simp [segsOf] at h
  | [_], _ => simp [segsOf] at h
  | [_, _], _ => simp [segsOf] at h
  | [_, _, _], _ => simp [segsOf] at h
  | a :: b :: c :: d :: r, 0 => rfl
  | a :: b :: c :: d :: r, j + 1 =>
    have ih := segsOf_get r j (by have : (segsOf (a :: b :: c :: d :: r)).length = (segsOf r).length + 1 := rfl; omega)
    show (segsOf r)[j]? = _
    rw [ih]
    simp only [List.getD_eq_getElem?_getD, show 4 * (j + 1) = 4 * j + 1 + 1 + 1 + 1 by omega, show 4 * j + 1 + 1 + 1 + 1 + 1 = 4 * j + 1 + 1 + 1 + 1 + 1 from rfl, List.getElem?_cons_succ]
def RsR (W0 : World) (s a0 a1 a2 a3 g8 : Nat) (SS : List Sg) (v11 : Value) (wr : World) : Prop :=
  ∃ (k : Nat) (B : Option Addr) (d : Nat), v11 = .int .i64 (4 + 4 * k : Nat) ∧ k ≤ SS.length ∧ Ext W0 wr ∧ Blk wr g8 24 #[.int .i64 (s : Nat), .int .i64 (a0 : Nat), .int .i64 (a1 : Nat), .int .i64 (a2 : Nat), .int .i64 (a3 : Nat), .slice B k d] ∧ OwnSg wr W0.heap.size B (SS.take k) d
def RdR (W0 : World) (n : Nat) (c45 : Value) (us : List Nat) (wr : World) : Prop := ∃ k : Nat, c45 = .int .i64 (k : Nat) ∧ k ≤ n ∧ (∀ j, j < k → us.getD j 0 ≤ 2199023255552) ∧ Ext W0 wr
end Go.Proofs.YtdoaniimfhpjhaaDoor
