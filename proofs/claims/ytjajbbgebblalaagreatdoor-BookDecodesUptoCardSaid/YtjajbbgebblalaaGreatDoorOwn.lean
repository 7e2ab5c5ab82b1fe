/-
  Rows of the call's own: what keeps them.
-/
import Derived.Test.YtjajbbgebblalaaGreatDoorBase
import Derived.Deep.MidRow
namespace Go.Proofs.YtjajbbgebblalaaGreatDoor
open Go.RowKit
set_option linter.unusedVariables false
set_option linter.unusedSimpArgs false
section
variable {w w' : World} {base : Nat} {e e2 : TypeId} {s s2 : Nat} {v v2 : Value} {n n2 : Nat} {xs ys : List Value}
theorem own_heap (h : w.ownsRow base e s v n xs) (hk : ∀ g, v.ownBlock = some g → w'.heap[g]? = w.heap[g]?) : w'.ownsRow base e s v n xs := by
  obtain ⟨h1, h2⟩ := h
  refine ⟨h1, ?_⟩
  rcases h2 with h2 | ⟨g, cap, cur, rfl, hb, hg, h3⟩
  · exact .inl h2
  · exact .inr ⟨g, cap, cur, rfl, hb, (hk g rfl).trans hg, h3⟩
theorem own_ext (hx : Ext w w') (h : w.ownsRow base e s v n xs) : w'.ownsRow base e s v n xs := own_heap h fun g hg => hx.block g (h.lt g hg).2
theorem own_setCell {p : Addr} {u : Value} (hp : p.block < base) (h : w.ownsRow base e s v n xs) : (w.setCell p u).ownsRow base e s v n xs := ownsRow_setCell_below h hp u
theorem own_setRow {g : Nat} {ds : Array Value} (hp : g < base) (h : w.ownsRow base e s v n xs) : (w.setRow g ds).ownsRow base e s v n xs := own_heap h fun k hk => by
  have := (h.lt k hk).1
  simp only [World.setRow, Array.getElem?_modify]
  rw [if_neg (by omega)]
theorem own_ne (h : w.ownsRow base e s v n xs) (h2 : w.ownsRow base e2 s2 v2 n2 ys) (he : e ≠ e2) : v.ownBlock = none ∨ v.ownBlock ≠ v2.ownBlock := by
  rcases h.2 with ⟨rfl, _⟩ | ⟨g, cap, cur, rfl, _, hg, _⟩
  · exact .inl rfl
  · refine .inr fun hc => ?_
    rcases h2.2 with ⟨rfl, _⟩ | ⟨g2, cap2, cur2, rfl, _, hg2, _⟩
    · simp [Value.ownBlock] at hc
    · simp [Value.ownBlock] at hc
      subst hc
      rw [hg] at hg2
      simp at hg2
      exact he hg2.2
theorem own_new (w : World) (base : Nat) (cs : Array Value) (t : TypeId) (n : Nat) (hb : base ≤ w.heap.size) (hm : n ≤ maxLen) (hs : cs.size = n * s) : (w.alloc (.cells cs t)).ownsRow base t s (.slice (some ⟨w.heap.size, 0, none⟩) n n) n cs.toList :=
  World.ownsRow_lit w cs n hb hm hs
theorem blk_grown {g : Nat} {t : TypeId} {cs : Array Value} {row : Option Nat} (h : Blk w g t cs) (hx : w.grownBy w' row) (hr : ∀ k, row = some k → base ≤ k) (hg : g < base) : Blk w' g t cs :=
  BlkG h hx fun hc => by have := hr g hc.symm; omega
end
section
variable {P : Program} {w : World}
theorem wpL_load_row_w {ops : Array Oper} {rest : List Oper} {o : Oper} {a : Act} {Q : Exit → Act → World → Prop} (hwt : Region.wanted o (yielded ops a.tmps) = true) (ty : TypeId) (x : Operand) (ho : o.op = .load ty x)
    (g : Nat) (t : TypeId) (cs : Array Value) (n : Nat) (hx : a.eval x = .pointer (some ⟨g, 0, none⟩)) (hb : Blk w g t cs) (hw : Wide P ty n) (hn : cs.size = n)
    (h : wpList P ops Q rest (a.put o.dst (.agg cs)) w) : wpList P ops Q (o :: rest) a w := by
  obtain ⟨⟨d, hu, hd⟩, hi⟩ := hw
  refine wpList_step fun K hK => ?_
  rw [if_pos hwt]
  exact wp_load_row ty x ho g hx t cs (0, 0) d hb hu (by revert hd; cases d <;> simp) (by rw [hn]; exact hi) (hK _ _ h)
end
theorem range_ext {w w' : World} {b o : Nat} {cs : List Value} (h : w.rangeAt b o cs) (hx : Ext w w') : w'.rangeAt b o cs := fun j v hv => hx.cell (h j v hv)
theorem Blk_eq {w : World} {g : Nat} {t : TypeId} {cs cs' : Array Value} (h : Blk w g t cs) (he : cs = cs') : Blk w g t cs' := he ▸ h
theorem grown_drewN {a w : World} {row : Option Nat} (h : a.grownBy w row) (n : Nat) : a.grownBy (w.drewN n) row := ⟨h.os, h.tape, h.output, h.size, h.block⟩
theorem grown_set {a w : World} {g i : Nat} (h : a.grownBy w (some g)) (u : Value) : a.grownBy (w.setCell ⟨g, i, none⟩ u) (some g) :=
  ⟨h.os, h.tape, h.output, by simpa [World.setCell] using h.size, fun k hk hne => (Below.heap_setCell w ⟨g, i, none⟩ u k (fun e => hne (by rw [e]))).trans (h.block k hk hne)⟩
theorem GrD {a w : World} {row : Option Nat} (h : a.grownBy w row) : a.grownBy w.drew row := ⟨h.os, h.tape, h.output, h.size, h.block⟩
theorem GrDN {a w : World} {row : Option Nat} {n : Nat} (h : a.grownBy w row) : a.grownBy (w.drewN n) row := grown_drewN h n
theorem GrA {a w : World} {row : Option Nat} {o : Obj} (h : a.grownBy w row) : a.grownBy (w.alloc o) row := h.trans (World.grownBy_alloc w o row)
theorem GrN {a w : World} {row : Option Nat} {p : Addr} {u : Value} (hp : a.heap.size ≤ p.block) (h : a.grownBy w row) : a.grownBy (w.setCell p u) row :=
  ⟨h.os, h.tape, h.output, by simpa [World.setCell] using h.size, fun k hk hne => (Below.heap_setCell w p u k (by omega)).trans (h.block k hk hne)⟩
theorem GrR {a w : World} {row : Option Nat} {g : Nat} {ds : Array Value} (hp : a.heap.size ≤ g) (h : a.grownBy w row) : a.grownBy (w.setRow g ds) row :=
  ⟨h.os, h.tape, h.output, by simpa [World.setRow] using h.size, fun k hk hne => by
    have := h.block k hk hne
    simp only [World.setRow, Array.getElem?_modify]
    rw [if_neg (by omega)]
    exact this⟩
theorem ext_grown {a w : World} (h : Ext a w) (row : Option Nat) : a.grownBy w row := ⟨h.os, h.tape, h.output, h.size, fun k hk _ => h.block k hk⟩
end Go.Proofs.YtjajbbgebblalaaGreatDoor
