/-
  Rows of the call's own: their cells, stores into them; rows of bytes that may be written over; lists of fields off the blocks that turn.
-/
import Derived.Test.YtipdilmlodakoaaGreatTurnB
namespace Go.Proofs.YtipdilmlodakoaaGreat
open Go.RowKit
set_option linter.unusedVariables false
set_option linter.unusedSimpArgs false
theorem addr_add2 (b o j : Nat) : (⟨b, o, none⟩ : Addr).add j = ⟨b, o + j, none⟩ := by by_cases h : j = 0 <;> simp [Addr.add, h]
theorem own_row_at {w : World} {base n c s : Nat} {e : TypeId} {A : Option Addr} {xs : List Value} (h : w.ownsRow base e s (.slice A n c) n xs) (hn : 0 < n) : ∃ b, A = some ⟨b, 0, none⟩ ∧ base ≤ b ∧ ∀ j u, xs[j]? = some u → w.cell? ⟨b, j, none⟩ = some u ∧ w.frozen? ⟨b, j, none⟩ = false := by
  have hc := h
  rcases h.2 with ⟨_, h0⟩ | ⟨g, cap, cur, hv, hb, hg, _⟩
  · omega
  · injection hv with h1 h2 h3
    subst h1
    refine ⟨g, rfl, hb, fun j u hu => ⟨?_, by simp [World.frozen?, hg]⟩⟩
    have h4 := hc.cells (g := g) rfl j u hu
    rw [addr_add2, Nat.zero_add] at h4
    exact h4
theorem own_set1 {w : World} {base n c b j : Nat} {e : TypeId} {xs : List Value} {u : Value} (h : w.ownsRow base e 1 (.slice (some ⟨b, 0, none⟩) n c) n xs) (hj : j < n) : (w.setCell ⟨b, j, none⟩ u).ownsRow base e 1 (.slice (some ⟨b, 0, none⟩) n c) n (xs.set j u) := by
  obtain ⟨h1, h2⟩ := h
  refine ⟨by simpa using h1, .inr ?_⟩
  rcases h2 with ⟨hv, _⟩ | ⟨g, cap, cur, hv, hb, hg, hn, hm, hs, ht⟩
  · cases hv
  · injection hv with e1 e2 e3
    injection e1 with e1
    injection e1 with e1
    subst e1 e3
    refine ⟨b, c, cur.setIfInBounds j u, rfl, hb, ?_, hn, hm, by simpa using hs, ?_⟩
    · simp [World.setCell, Array.getElem?_modify, hg]
    · rw [Array.toList_setIfInBounds, List.take_set, ht]
def BI (w : World) (base : Nat) (A : Option Addr) (n c : Nat) : Prop := ∃ xs : List Int, w.ownsRow base 5 1 (.slice A n c) n (xs.map (Value.int .u8))
theorem bi_of {w : World} {base n c : Nat} {A : Option Addr} {l : List UInt8} (h : w.ownsRow base 5 1 (.slice A n c) n (u8s l)) : BI w base A n c :=
  ⟨l.map fun x => (x.toNat : Int), by rw [List.map_map]; exact h⟩
theorem BI.at {w : World} {base n c : Nat} {A : Option Addr} (h : BI w base A n c) {j : Nat} (hj : j < n) : ∃ b q, A = some ⟨b, 0, none⟩ ∧ base ≤ b ∧ w.cell? ⟨b, j, none⟩ = some (.int .u8 q) ∧ w.frozen? ⟨b, j, none⟩ = false ∧ ∀ q', BI (w.setCell ⟨b, j, none⟩ (.int .u8 q')) base (some ⟨b, 0, none⟩) n c := by
  obtain ⟨xs, hx⟩ := h
  have hl : xs.length = n := by have := hx.1; simpa using this
  obtain ⟨b, rfl, hb, hc⟩ := own_row_at hx (by omega)
  obtain ⟨h1, h2⟩ := hc j (.int .u8 (xs[j]'(by omega))) (by simp [hl, hj])
  refine ⟨b, _, rfl, hb, h1, h2, fun q' => ⟨xs.set j q', ?_⟩⟩
  rw [List.map_set]
  exact own_set1 hx hj
theorem BI.turn {w w' : World} {base n c : Nat} {A : Option Addr} {F : List Nat} (h : BI w base A n c) (ht : Turn F w w') (hn : ∀ r ∈ blkOf A, r ∉ F) : BI w' base A n c := by
  obtain ⟨xs, hx⟩ := h
  exact ⟨xs, ht.own hx fun r hr => hn r (by rw [blkOf_own hr]; simp)⟩
theorem OwnFs.turn {w w' : World} {base n c : Nat} {A : Option Addr} {hs : List Held} {F : List Nat} (h : OwnFs w base A n c hs) (ht : Turn F w w') (h1 : ∀ r ∈ blkOf A, r ∉ F) (h2 : ∀ g ∈ hs, ∀ r ∈ blkOf g.2.1, r ∉ F) : OwnFs w' base A n c hs :=
  ⟨ht.own h.1 fun r hr => h1 r (by rw [blkOf_own hr]; simp), fun g hg => ht.own (h.2 g hg) fun r hr => h2 g hg r (by rw [blkOf_own hr]; simp)⟩
theorem OwnFs.ext' {w w' : World} {base n c : Nat} {A : Option Addr} {hs : List Held} (h : OwnFs w base A n c hs) (hx : Ext w w') : OwnFs w' base A n c hs := ⟨own_ext hx h.1, fun g hg => own_ext hx (h.2 g hg)⟩
/-- Blocks from a world on hit no list that lay in it. -/
theorem OwnFs.new {w : World} {base n c : Nat} {A : Option Addr} {hs : List Held} (h : OwnFs w base A n c hs) : (∀ r ∈ blkOf A, r < w.heap.size) ∧ ∀ g ∈ hs, ∀ r ∈ blkOf g.2.1, r < w.heap.size :=
  ⟨fun r hr => (h.1.lt r (own_blkOf hr)).2, fun g hg r hr => ((h.2 g hg).lt r (own_blkOf hr)).2⟩
theorem OwnFs.turnNew {w0 w w' : World} {base n c : Nat} {A : Option Addr} {hs : List Held} {F : List Nat} (h0 : OwnFs w0 base A n c hs) (h : OwnFs w base A n c hs) (ht : Turn F w w') (hF : ∀ r ∈ F, w0.heap.size ≤ r) : OwnFs w' base A n c hs :=
  h.turn ht (fun r hr hc => by have := h0.new.1 r hr; have := hF r hc; omega) (fun g hg r hr hc => by have := h0.new.2 g hg r hr; have := hF r hc; omega)
/-- A writer's blocks hit no text of a list. -/
theorem own_apart8 {w : World} {base base2 n n2 c c2 : Nat} {A A2 : Option Addr} {xs ys : List Value} (h : w.ownsRow base 5 1 (.slice A n c) n xs) (h2 : w.ownsRow base2 70 4 (.slice A2 n2 c2) n2 ys) : ∀ r ∈ blkOf A, r ∉ blkOf A2 := fun r hr hc => by
  have e1 := own_blkOf (n := n) (c := c) hr
  have e2 := own_blkOf (n := n2) (c := c2) hc
  rcases own_ne2 h h2 (by decide) with h3 | h3
  · rw [h3] at e1; cases e1
  · rw [e1, e2] at h3; exact h3 rfl
theorem own_apart_ {w : World} {base base2 n n2 c c2 s s2 : Nat} {e e2 : TypeId} {A A2 : Option Addr} {xs ys : List Value} (h : w.ownsRow base e s (.slice A n c) n xs) (h2 : w.ownsRow base2 e2 s2 (.slice A2 n2 c2) n2 ys) (he : e ≠ e2) : ∀ r ∈ blkOf A, r ∉ blkOf A2 := fun r hr hc => by
  have e1 := own_blkOf (n := n) (c := c) hr
  have e2 := own_blkOf (n := n2) (c := c2) hc
  rcases own_ne2 h h2 he with h3 | h3
  · rw [h3] at e1; cases e1
  · rw [e1, e2] at h3; exact h3 rfl
def XorR (wx : World) (base : Nat) (A : Option Addr) (n c : Nat) (d : Value) (wy : World) : Prop := ∃ j : Nat, d = .int .i64 (j : Nat) ∧ j ≤ n ∧ Turn (blkOf A) wx wy ∧ BI wy base A n c
theorem add_dis {A A1 A2 : Option Addr} {z z' : Nat} (h : ∀ r ∈ blkOf A, r ∉ blkOf A1) (hz : ∀ r ∈ blkOf A, r < z) (hzz : z ≤ z') (h2 : ∀ r ∈ blkOf A2, r ∈ blkOf A1 ∨ z' ≤ r) : ∀ r ∈ blkOf A, r ∉ blkOf A2 := fun r hr hc => by
  rcases h2 r hc with h3 | h3
  · exact h r hr h3
  · have := hz r hr; omega
theorem add_own {w1 w5 : World} {base g n c n' c' : Nat} {A A' : Option Addr} {hs hs' : List Held} {cs : Array Value} {f : Fld} {Af : Option Addr} {cf : Nat} (h : OwnFs w1 base A n c hs) (hb : Blk w1 g 77 cs) (ht : Turn (g :: blkOf A) w1 w5)
    (ho : w5.ownsRow base 70 4 (.slice A' n' c') n' (fsCells hs')) (hh : hs' = hs ∨ hs' = hs ++ [(f, Af, cf)]) (hf : w5.ownsRow base 5 1 (.slice Af f.bytes.length cf) f.bytes.length (u8s f.bytes)) : OwnFs w5 base A' n' c' hs' := by
  have h1 : ∀ x ∈ hs, w5.ownsRow base 5 1 (.slice x.2.1 x.1.bytes.length x.2.2) x.1.bytes.length (u8s x.1.bytes) := fun x hx => ht.own (h.2 x hx) fun r hr hc => by
    rcases List.mem_cons.1 hc with rfl | hc
    · exact blk_off (h.2 x hx) hb (by decide) hr
    · exact own_apart8 (h.2 x hx) h.1 r (by rw [blkOf_own hr]; simp) hc
  refine ⟨ho, fun x hx => ?_⟩
  rcases hh with rfl | rfl
  · exact h1 x hx
  · rcases List.mem_append.1 hx with hx | hx
    · exact h1 x hx
    · rw [List.mem_singleton.1 hx]
      exact hf
end Go.Proofs.YtipdilmlodakoaaGreat
