/-
  States and their lines written over: what is written lies between two marks of the heap. No program's function in sight.
-/
import Derived.Test.YtjajbbgebblalaaGreatDoorSsW
namespace Go.Proofs.YtjajbbgebblalaaGreatDoor
open Go.RowKit
set_option linter.unusedVariables false
set_option linter.unusedSimpArgs false
/-- Written over: only blocks between two marks, every block keeps its type and length, and the row g its states' lines. -/
def ShB (W : World) (lo hi g : Nat) (cs : Array Value) (n : Nat) (wr : World) : Prop :=
  (wr.os = W.os ∧ wr.tape = W.tape ∧ wr.output = W.output ∧ wr.heap.size = W.heap.size) ∧ (∀ i, i < lo ∨ hi ≤ i → wr.heap[i]? = W.heap[i]?) ∧
  (∀ i t c, i ≠ g → Blk W i t c → ∃ c', Blk wr i t c' ∧ c'.size = c.size) ∧ ∃ cs', Blk wr g 77 cs' ∧ cs'.size = cs.size ∧ ∀ k, k < n → cs'[k * 12 + 5]? = cs[k * 12 + 5]?
theorem ShB.refl {W : World} {lo hi g n : Nat} {cs : Array Value} (h : Blk W g 77 cs) : ShB W lo hi g cs n W :=
  ⟨⟨rfl, rfl, rfl, rfl⟩, fun _ _ => rfl, fun i t c _ h => ⟨c, h, rfl⟩, cs, h, rfl, fun _ _ => rfl⟩
theorem ShB.line {W wr : World} {lo hi g n i off : Nat} {cs : Array Value} {u : Value} (h : ShB W lo hi g cs n wr) (hi1 : lo ≤ i) (hi2 : i < hi) (hg : i ≠ g) : ShB W lo hi g cs n (wr.setCell ⟨i, off, none⟩ u) := by
  obtain ⟨⟨a1, a2, a3, a4⟩, b, c, cs', d1, d2, d3⟩ := h
  refine ⟨⟨a1, a2, a3, by simpa using a4⟩, fun j hj => (Below.heap_setCell wr ⟨i, off, none⟩ u j (fun e => by have e : j = i := e; omega)).trans (b j hj), fun j t c2 hj hb => ?_, cs', BlkF (p := ⟨i, off, none⟩) (Ne.symm hg) d1, d2, d3⟩
  obtain ⟨c', e1, e2⟩ := c j t c2 hj hb
  by_cases hji : j = i
  · subst hji
    exact ⟨_, BlkS e1, by simpa using e2⟩
  · exact ⟨c', BlkF (p := ⟨i, off, none⟩) hji e1, e2⟩
theorem ShB.order {W wr : World} {lo hi g n k : Nat} {cs : Array Value} {u : Value} (h : ShB W lo hi g cs n wr) (hi1 : lo ≤ g) (hi2 : g < hi) : ShB W lo hi g cs n (wr.setCell ⟨g, k * 12, none⟩ u) := by
  obtain ⟨⟨a1, a2, a3, a4⟩, b, c, cs', d1, d2, d3⟩ := h
  refine ⟨⟨a1, a2, a3, by simpa using a4⟩, fun j hj => (Below.heap_setCell wr ⟨g, k * 12, none⟩ u j (fun e => by have e : j = g := e; omega)).trans (b j hj), fun j t c2 hj hb => ?_, _, BlkS d1, by simpa using d2, fun m hm => ?_⟩
  · obtain ⟨c', e1, e2⟩ := c j t c2 hj hb
    exact ⟨c', BlkF (p := ⟨g, k * 12, none⟩) hj e1, e2⟩
  · rw [Array.getElem?_setIfInBounds]
    rw [if_neg (by omega)]
    exact d3 m hm
theorem ShB.ext {a W wr : World} {lo hi g n : Nat} {cs : Array Value} (h : ShB W lo hi g cs n wr) (hx : Ext a W) (hl : a.heap.size ≤ lo) : Ext a wr :=
  ⟨h.1.1.trans hx.os, h.1.2.1.trans hx.tape, h.1.2.2.1.trans hx.output, by rw [h.1.2.2.2]; exact hx.size, fun i hi => (h.2.1 i (.inl (by omega))).trans (hx.block i hi)⟩
/-- States of the call's own, in a world where their blocks lie as they lay. -/
theorem OwnSs.to {w w' : World} {B n c : Nat} {A : Option Addr} {hs : List HSt} (h : OwnSs w B A n c hs) (hk : ∀ i, B ≤ i → i < w.heap.size → w'.heap[i]? = w.heap[i]?) : OwnSs w' B A n c hs :=
  ⟨own_heap h.1 fun g hg => hk g (h.1.lt g hg).1 (h.1.lt g hg).2, fun x hx => own_heap (h.2 x hx) fun g hg => hk g ((h.2 x hx).lt g hg).1 ((h.2 x hx).lt g hg).2⟩
/-- The row of states of the call's own: its block, and where each state's lines lie. -/
theorem OwnSs.form {w : World} {B n c : Nat} {A : Option Addr} {hs : List HSt} (h : OwnSs w B A n c hs) (h0 : 0 < n) : ∃ g cs, A = some ⟨g, 0, none⟩ ∧ B ≤ g ∧ Blk w g 77 cs ∧ n * 12 ≤ cs.size ∧ ∀ k x, hs[k]? = some x → cs[k * 12 + 5]? = some (.slice x.2.1 x.1.lines.length x.2.2) := by
  have hl := h.len
  rcases h.1.2 with ⟨h1, h2⟩ | ⟨g, cap, cur, h1, h2, h3, h4, h5, h6, h7⟩
  · omega
  · injection h1 with h8 h9 h10
    refine ⟨g, cur, h8, h2, h3, by rw [h6]; exact Nat.mul_le_mul_right _ h4, fun k x hx => ?_⟩
    have hk := (List.getElem?_eq_some_iff.1 hx).1
    have h9 : (cur.toList.take (n * 12))[k * 12 + 5]? = (ssCells hs)[k * 12 + 5]? := by rw [h7]
    rw [List.getElem?_take, if_pos (by omega), ssCells_at hs k 5 x hx (by decide)] at h9
    simpa [sscells, stcells] using h9
/-- One state's lines of the call's own: their block. -/
theorem ols_form {w : World} {B c : Nat} {A : Option Addr} {ls : List Ln} (h : OwnLs w B A ls c) (h0 : 0 < ls.length) : ∃ g cs, A = some ⟨g, 0, none⟩ ∧ B ≤ g ∧ g < w.heap.size ∧ Blk w g 79 cs ∧ ls.length * 4 ≤ cs.size := by
  rcases h.2 with ⟨h1, h2⟩ | ⟨g, cap, cur, h1, h2, h3, h4, h5, h6, h7⟩
  · omega
  · injection h1 with h8 h9 h10
    exact ⟨g, cur, h8, h2, Blk.lt h3, h3, by rw [h6]; exact Nat.mul_le_mul_right _ h4⟩
end Go.Proofs.YtjajbbgebblalaaGreatDoor
