/-
  Blocks that turn: every block of a world but those of a list stands in the other. Appends to rows of fields, wherever the row lies.
-/
/-
  Rows of the call's own: their cells, stores into them; rows of bytes that may be written over; lists of fields off the blocks that turn.
-/
/-
  A reader in memory: a map from tags to fields. What is looked up, stored, struck out and counted.
-/
import Derived.Test.YtjajbbgebblalaaGreatDoorFsW
import Derived.Maps.OwnSet
import Derived.Maps.RangeWalk
namespace Go.Proofs.YtjajbbgebblalaaGreatDoor
open Go.RowKit
set_option linter.unusedVariables false
set_option linter.unusedSimpArgs false
/-- Every block of w but those of F stands in w'. -/
structure Turn (F : List Nat) (w w' : World) : Prop where
  os : w'.os = w.os
  tape : w'.tape = w.tape
  output : w'.output = w.output
  size : w.heap.size ≤ w'.heap.size
  block : ∀ k, k < w.heap.size → k ∉ F → w'.heap[k]? = w.heap[k]?
theorem Turn.refl (F : List Nat) (w : World) : Turn F w w := ⟨rfl, rfl, rfl, Nat.le_refl _, fun _ _ _ => rfl⟩
theorem Turn.trans {F F' : List Nat} {a b c : World} (h : Turn F a b) (h2 : Turn F' b c) (hf : ∀ r ∈ F', r ∈ F ∨ a.heap.size ≤ r) : Turn F a c :=
  ⟨h2.os.trans h.os, h2.tape.trans h.tape, h2.output.trans h.output, Nat.le_trans h.size h2.size, fun k hk hn => (h2.block k (Nat.lt_of_lt_of_le hk h.size) (fun hc => by
    rcases hf k hc with h3 | h3
    · exact hn h3
    · omega)).trans (h.block k hk hn)⟩
theorem Turn.tr {F : List Nat} {a b c : World} (h : Turn F a b) (h2 : Turn F b c) : Turn F a c := h.trans h2 fun _ hr => .inl hr
theorem Turn.mono {F F' : List Nat} {a b : World} (h : Turn F a b) (hf : ∀ r ∈ F, r ∈ F' ∨ a.heap.size ≤ r) : Turn F' a b :=
  ⟨h.os, h.tape, h.output, h.size, fun k hk hn => h.block k hk (fun hc => by
    rcases hf k hc with h3 | h3
    · exact hn h3
    · omega)⟩
theorem Ext.turn {a b : World} (h : Ext a b) (F : List Nat) : Turn F a b := ⟨h.os, h.tape, h.output, h.size, fun k hk _ => h.block k hk⟩
theorem Turn.ext {W a b : World} {F : List Nat} (hx : Ext W a) (h : Turn F a b) (hf : ∀ r ∈ F, W.heap.size ≤ r) : Ext W b :=
  ⟨h.os.trans hx.os, h.tape.trans hx.tape, h.output.trans hx.output, Nat.le_trans hx.size h.size, fun k hk => (h.block k (Nat.lt_of_lt_of_le hk hx.size) (fun hc => by have := hf k hc; omega)).trans (hx.block k hk)⟩
theorem Turn.ext0 {a b : World} (h : Turn [] a b) : Ext a b := h.ext (Ext.rfl' a) (fun _ hr => by cases hr)
theorem grown_turn {a b : World} {row : Option Nat} (h : a.grownBy b row) {F : List Nat} (hf : ∀ r, row = some r → r ∈ F ∨ a.heap.size ≤ r) : Turn F a b :=
  ⟨h.os, h.tape, h.output, h.size, fun k hk hn => h.block k hk (fun hc => by
    rcases hf k hc.symm with h3 | h3
    · exact hn h3
    · omega)⟩
theorem Turn.cell {F : List Nat} {a : World} {p : Addr} {v : Value} (hp : p.block ∈ F) : Turn F a (a.setCell p v) :=
  ⟨rfl, rfl, rfl, by simp, fun k _ hn => Below.heap_setCell a p v k (fun hc => hn (by rw [hc]; exact hp))⟩
theorem Turn.blk {F : List Nat} {a b : World} {g : Nat} {t : TypeId} {cs : Array Value} (h : Turn F a b) (hb : Blk a g t cs) (hn : g ∉ F) : Blk b g t cs := (h.block g hb.lt hn).trans hb
theorem Turn.own {F : List Nat} {a b : World} {base s n : Nat} {e : TypeId} {v : Value} {xs : List Value} (h : Turn F a b) (ho : a.ownsRow base e s v n xs) (hn : ∀ r, v.ownBlock = some r → r ∉ F) : b.ownsRow base e s v n xs :=
  own_heap ho fun g hg => h.block g (ho.lt g hg).2 (hn g hg)
/-- The block that a slice lies in. -/
def blkOf (A : Option Addr) : List Nat := (A.map (·.block)).toList
theorem blkOf_own {A : Option Addr} {n c r : Nat} (h : (Value.slice A n c).ownBlock = some r) : blkOf A = [r] := by
  cases A with
  | none => simp [Value.ownBlock] at h
  | some a => simp [Value.ownBlock] at h; simp [blkOf, h]
theorem own_blkOf {A : Option Addr} {n c r : Nat} (h : r ∈ blkOf A) : (Value.slice A n c).ownBlock = some r := by
  cases A with
  | none => simp [blkOf] at h
  | some a => simp [blkOf] at h; simp [Value.ownBlock, h]
theorem blkOf_nil : blkOf none = [] := rfl
theorem blkOf_some (a : Addr) : blkOf (some a) = [a.block] := rfl
theorem Turn.rd {F : List Nat} {a b : World} {s n : Nat} {A : Option Addr} {xs : List Value} (h : Turn F a b) (hr : RdN a s A n xs) (hn : ∀ r ∈ blkOf A, r ∉ F) : RdN b s A n xs :=
  ⟨hr.1, fun h0 => by
    obtain ⟨g, o, rfl, hc⟩ := hr.2 h0
    refine ⟨g, o, rfl, fun j u hu => ?_⟩
    have h1 := hc j u hu
    have hlt := World.block_lt_of_cell? _ _ h1
    exact (World.cell?_of_block (h.block g hlt (hn g (by simp [blkOf])))).trans h1⟩
theorem Turn.rd1 {F : List Nat} {a b : World} {n : Nat} {A : Option Addr} {xs : List Value} (h : Turn F a b) (hr : Rd a A n xs) (hn : ∀ r ∈ blkOf A, r ∉ F) : Rd b A n xs :=
  ⟨hr.1, fun h0 => by
    obtain ⟨g, o, rfl, hc⟩ := hr.2 h0
    refine ⟨g, o, rfl, fun j u hu => ?_⟩
    have h1 := hc j u hu
    have hlt := World.block_lt_of_cell? _ _ h1
    exact (World.cell?_of_block (h.block g hlt (hn g (by simp [blkOf])))).trans h1⟩
theorem blk_off {w : World} {base g : Nat} {e t : TypeId} {s n : Nat} {v : Value} {xs : List Value} {cs : Array Value} (h : w.ownsRow base e s v n xs) (hb : Blk w g t cs) (ht : t ≠ e) : v.ownBlock ≠ some g := by
  intro hc
  rcases h.2 with ⟨hv, _⟩ | ⟨g2, cap, cur, hv, _, hg2, _⟩
  · rw [hv] at hc; cases hc
  · rw [hv] at hc
    simp only [Value.ownBlock, Option.some.injEq] at hc
    subst hc
    unfold Blk at hb
    rw [hb] at hg2
    simp at hg2
    exact ht hg2.2
theorem own_put {w : World} {base s n c g i : Nat} {e : TypeId} {A : Option Addr} {xs : List Value} {u : Value} (h : w.ownsRow base e s (.slice A n c) n xs) (hg : g ∉ blkOf A) : (w.setCell ⟨g, i, none⟩ u).ownsRow base e s (.slice A n c) n xs :=
  (Turn.cell (F := [g]) (p := ⟨g, i, none⟩) (by simp)).own h fun r hr hc => hg (by rw [blkOf_own hr]; simp at hc; simp [hc])
section
variable {w : World} {ops : Array Oper}
theorem step_appendFd {o : Oper} {a : Act} {K : Act → World → Prop} {Q : Exit → Act → World → Prop} {E : Prop} (hgd : o.guard = none) (d : Option Tmp) (hd : o.dst = d) (s x : Operand)
    (ho : o.op = .call { callee := .builtin .append, args := #[s, x], argTypes := #[197, 197] }) (base : Nat) (hbs : base ≤ w.heap.size)
    {A0 : Option Addr} {n0 c0 : Nat} {l : List Held} (hs : a.eval s = .slice A0 n0 c0) (hown : w.ownsRow base 210 4 (.slice A0 n0 c0) n0 (fsCells l))
    {A : Option Addr} {m c : Nat} {news : List Held} (hx : a.eval x = .slice A m c) (hr : RdN w 4 A m (fsCells news)) (hb : (l.length + news.length) * 48 ≤ 140737488355328)
    (hK : ∀ A' n' c' w', Hid (n' = l.length + news.length) → w'.ownsRow base 210 4 (.slice A' n' c') n' (fsCells (l ++ news)) → Turn (blkOf A0) w w' → (∀ r ∈ blkOf A', r ∈ blkOf A0 ∨ w.heap.size ≤ r) → K (a.put d (.slice A' n' c')) w') :
    if Region.wanted o (yielded ops a.tmps) = true then Oper.wp Tryz.prog o a w K Q else E := by
  subst hd
  have hwt : Region.wanted o (yielded ops a.tmps) = true := by simp [Region.wanted, hgd]
  rw [if_pos hwt]
  have e1 : n0 = l.length := by have := hown.1; rw [fsCells_len] at this; omega
  have e2 : news.length = m := by have := hr.1; rw [fsCells_len] at this; omega
  obtain ⟨v', w', hrun, h2, h3, h4⟩ := run_append_rd (P := Tryz.prog) base 197 o.type 210 _ 4 48 Tryz.underlying197 el_fld _ n0 _ hown A m c _ hr (fsCells_one _) (by simp only [maxLen]; omega) (by omega) hbs
  rw [← fsCells_app] at h2
  obtain ⟨A', c', rfl⟩ := own_slice h2
  unfold Oper.wp execOp
  simp only [ho, resolve, invoke, builtin, Sem.run_bind, Sem.run_pure, Result.andThen_ok, List.map_toArray, List.map_cons, List.map_nil, hs, hx, hrun]
  refine hK A' _ c' w' (Lib.hid (by omega)) h2 (grown_turn h3 fun r hr => .inl (by rw [blkOf_own hr]; simp)) (fun r hr => ?_)
  have hr' := own_blkOf (n := n0 + m) (c := c') hr
  rcases h4 with h4 | h4
  · rw [h4] at hr'
    exact .inl (by rw [blkOf_own hr']; simp)
  · rw [h4] at hr'
    injection hr' with hr'
    exact .inr (by omega)
theorem wpFd_append {rest : List Oper} {o : Oper} {a : Act} {Q : Exit → Act → World → Prop} (hgd : o.guard = none) (s x : Operand)
    (ho : o.op = .call { callee := .builtin .append, args := #[s, x], argTypes := #[197, 197] }) (base : Nat) (hbs : base ≤ w.heap.size)
    {A0 : Option Addr} {n0 c0 : Nat} {l : List Held} (hs : a.eval s = .slice A0 n0 c0) (hown : w.ownsRow base 210 4 (.slice A0 n0 c0) n0 (fsCells l))
    {A : Option Addr} {m c : Nat} {news : List Held} (hx : a.eval x = .slice A m c) (hr : RdN w 4 A m (fsCells news)) (hb : (l.length + news.length) * 48 ≤ 140737488355328)
    (h : ∀ A' n' c' w', Hid (n' = l.length + news.length) → w'.ownsRow base 210 4 (.slice A' n' c') n' (fsCells (l ++ news)) → Turn (blkOf A0) w w' → (∀ r ∈ blkOf A', r ∈ blkOf A0 ∨ w.heap.size ≤ r) → wpList Tryz.prog ops Q rest (a.put o.dst (.slice A' n' c')) w') :
    wpList Tryz.prog ops Q (o :: rest) a w := by
  have e1 : n0 = l.length := by have := hown.1; rw [fsCells_len] at this; omega
  have e2 : news.length = m := by have := hr.1; rw [fsCells_len] at this; omega
  refine wpL_append hgd s x 197 ho base 210 _ 4 48 Tryz.underlying197 el_fld _ n0 _ hs hown A m c _ hx hr (fsCells_one _) (n0 + m) (fsCells (l ++ news)) rfl (fsCells_app _ _).symm (by simp only [maxLen]; omega) (by rw [e1, ← e2]; exact hb) hbs ?_
  intro v' w' h2 h3 h4
  obtain ⟨A', c', rfl⟩ := own_slice h2
  refine h A' _ c' w' (Lib.hid (by omega)) h2 (grown_turn h3 fun r hr => .inl (by rw [blkOf_own hr]; simp)) (fun r hr => ?_)
  have hr' := own_blkOf (n := n0 + m) (c := c') hr
  rcases h4 with h4 | h4
  · rw [h4] at hr'
    exact .inl (by rw [blkOf_own hr']; simp)
  · rw [h4] at hr'
    injection hr' with hr'
    exact .inr (by omega)
end
end Go.Proofs.YtjajbbgebblalaaGreatDoor

namespace Go.Proofs.YtjajbbgebblalaaGreatDoor
open Go.RowKit
set_option linter.unusedVariables false
set_option linter.unusedSimpArgs false
theorem addr_add2 (b o j : Nat) : (⟨b, o, none⟩ : Addr).add j = ⟨b, o + j, none⟩ := by by_cases h : j = 0 <;> simp [Addr.add, h]
theorem own_row_at {w : World} {base n c s : Nat} {e : TypeId} {A : Option Addr} {xs : List Value} (h : w.ownsRow base e s (.slice A n c) n xs) (hn : 0 < n) : ∃ b, A = some ⟨b, 0, none⟩ ∧ base ≤ b ∧ ∀ j u, xs[j]? = some u → w.cell? ⟨b, j, none⟩ = some u ∧ w.frozen? ⟨b, j, none⟩ = false := by
  have hc := h
  rcases h.2 with ⟨_, h0⟩ | ⟨g, cap, cur, hv, hb, hg, _⟩
  · omega
  · injection hv with h1 h2 h3
    subst h1
    refine ⟨g, rfl, hb, fun j u hu => ⟨?_, by simp [World.frozen?, hg]⟩⟩
    have h4 := hc.cells (g := g) rfl j u hu
    rw [addr_add2, Nat.zero_add] at h4
    exact h4
theorem own_set1 {w : World} {base n c b j : Nat} {e : TypeId} {xs : List Value} {u : Value} (h : w.ownsRow base e 1 (.slice (some ⟨b, 0, none⟩) n c) n xs) (hj : j < n) : (w.setCell ⟨b, j, none⟩ u).ownsRow base e 1 (.slice (some ⟨b, 0, none⟩) n c) n (xs.set j u) := by
  obtain ⟨h1, h2⟩ := h
  refine ⟨by simpa using h1, .inr ?_⟩
  rcases h2 with ⟨hv, _⟩ | ⟨g, cap, cur, hv, hb, hg, hn, hm, hs, ht⟩
  · cases hv
  · injection hv with e1 e2 e3
    injection e1 with e1
    injection e1 with e1
    subst e1 e3
    refine ⟨b, c, cur.setIfInBounds j u, rfl, hb, ?_, hn, hm, by simpa using hs, ?_⟩
    · simp [World.setCell, Array.getElem?_modify, hg]
    · rw [Array.toList_setIfInBounds, List.take_set, ht]
def BI (w : World) (base : Nat) (A : Option Addr) (n c : Nat) : Prop := ∃ xs : List Int, w.ownsRow base 5 1 (.slice A n c) n (xs.map (Value.int .u8))
theorem bi_of {w : World} {base n c : Nat} {A : Option Addr} {l : List UInt8} (h : w.ownsRow base 5 1 (.slice A n c) n (u8s l)) : BI w base A n c :=
  ⟨l.map fun x => (x.toNat : Int), by rw [List.map_map]; exact h⟩
theorem BI.at {w : World} {base n c : Nat} {A : Option Addr} (h : BI w base A n c) {j : Nat} (hj : j < n) : ∃ b q, A = some ⟨b, 0, none⟩ ∧ base ≤ b ∧ w.cell? ⟨b, j, none⟩ = some (.int .u8 q) ∧ w.frozen? ⟨b, j, none⟩ = false ∧ ∀ q', BI (w.setCell ⟨b, j, none⟩ (.int .u8 q')) base (some ⟨b, 0, none⟩) n c := by
  obtain ⟨xs, hx⟩ := h
  have hl : xs.length = n := by have := hx.1; simpa using this
  obtain ⟨b, rfl, hb, hc⟩ := own_row_at hx (by omega)
  obtain ⟨h1, h2⟩ := hc j (.int .u8 (xs[j]'(by omega))) (by simp [hl, hj])
  refine ⟨b, _, rfl, hb, h1, h2, fun q' => ⟨xs.set j q', ?_⟩⟩
  rw [List.map_set]
  exact own_set1 hx hj
theorem BI.turn {w w' : World} {base n c : Nat} {A : Option Addr} {F : List Nat} (h : BI w base A n c) (ht : Turn F w w') (hn : ∀ r ∈ blkOf A, r ∉ F) : BI w' base A n c := by
  obtain ⟨xs, hx⟩ := h
  exact ⟨xs, ht.own hx fun r hr => hn r (by rw [blkOf_own hr]; simp)⟩
theorem OwnFs.turn {w w' : World} {base n c : Nat} {A : Option Addr} {hs : List Held} {F : List Nat} (h : OwnFs w base A n c hs) (ht : Turn F w w') (h1 : ∀ r ∈ blkOf A, r ∉ F) (h2 : ∀ g ∈ hs, ∀ r ∈ blkOf g.2.1, r ∉ F) : OwnFs w' base A n c hs :=
  ⟨ht.own h.1 fun r hr => h1 r (by rw [blkOf_own hr]; simp), fun g hg => ht.own (h.2 g hg) fun r hr => h2 g hg r (by rw [blkOf_own hr]; simp)⟩
theorem OwnFs.ext' {w w' : World} {base n c : Nat} {A : Option Addr} {hs : List Held} (h : OwnFs w base A n c hs) (hx : Ext w w') : OwnFs w' base A n c hs := ⟨own_ext hx h.1, fun g hg => own_ext hx (h.2 g hg)⟩
/-- Blocks from a world on hit no list that lay in it. -/
theorem OwnFs.new {w : World} {base n c : Nat} {A : Option Addr} {hs : List Held} (h : OwnFs w base A n c hs) : (∀ r ∈ blkOf A, r < w.heap.size) ∧ ∀ g ∈ hs, ∀ r ∈ blkOf g.2.1, r < w.heap.size :=
  ⟨fun r hr => (h.1.lt r (own_blkOf hr)).2, fun g hg r hr => ((h.2 g hg).lt r (own_blkOf hr)).2⟩
theorem OwnFs.turnNew {w0 w w' : World} {base n c : Nat} {A : Option Addr} {hs : List Held} {F : List Nat} (h0 : OwnFs w0 base A n c hs) (h : OwnFs w base A n c hs) (ht : Turn F w w') (hF : ∀ r ∈ F, w0.heap.size ≤ r) : OwnFs w' base A n c hs :=
  h.turn ht (fun r hr hc => by have := h0.new.1 r hr; have := hF r hc; omega) (fun g hg r hr hc => by have := h0.new.2 g hg r hr; have := hF r hc; omega)
/-- A writer's blocks hit no text of a list. -/
theorem own_apart8 {w : World} {base base2 n n2 c c2 : Nat} {A A2 : Option Addr} {xs ys : List Value} (h : w.ownsRow base 5 1 (.slice A n c) n xs) (h2 : w.ownsRow base2 210 4 (.slice A2 n2 c2) n2 ys) : ∀ r ∈ blkOf A, r ∉ blkOf A2 := fun r hr hc => by
  have e1 := own_blkOf (n := n) (c := c) hr
  have e2 := own_blkOf (n := n2) (c := c2) hc
  rcases own_ne2 h h2 (by decide) with h3 | h3
  · rw [h3] at e1; cases e1
  · rw [e1, e2] at h3; exact h3 rfl
theorem own_apart_ {w : World} {base base2 n n2 c c2 s s2 : Nat} {e e2 : TypeId} {A A2 : Option Addr} {xs ys : List Value} (h : w.ownsRow base e s (.slice A n c) n xs) (h2 : w.ownsRow base2 e2 s2 (.slice A2 n2 c2) n2 ys) (he : e ≠ e2) : ∀ r ∈ blkOf A, r ∉ blkOf A2 := fun r hr hc => by
  have e1 := own_blkOf (n := n) (c := c) hr
  have e2 := own_blkOf (n := n2) (c := c2) hc
  rcases own_ne2 h h2 he with h3 | h3
  · rw [h3] at e1; cases e1
  · rw [e1, e2] at h3; exact h3 rfl
def XorR (wx : World) (base : Nat) (A : Option Addr) (n c : Nat) (d : Value) (wy : World) : Prop := ∃ j : Nat, d = .int .i64 (j : Nat) ∧ j ≤ n ∧ Turn (blkOf A) wx wy ∧ BI wy base A n c
theorem add_dis {A A1 A2 : Option Addr} {z z' : Nat} (h : ∀ r ∈ blkOf A, r ∉ blkOf A1) (hz : ∀ r ∈ blkOf A, r < z) (hzz : z ≤ z') (h2 : ∀ r ∈ blkOf A2, r ∈ blkOf A1 ∨ z' ≤ r) : ∀ r ∈ blkOf A, r ∉ blkOf A2 := fun r hr hc => by
  rcases h2 r hc with h3 | h3
  · exact h r hr h3
  · have := hz r hr; omega
theorem add_own {w1 w5 : World} {base g n c n' c' : Nat} {A A' : Option Addr} {hs hs' : List Held} {cs : Array Value} {f : Fld} {Af : Option Addr} {cf : Nat} (h : OwnFs w1 base A n c hs) (hb : Blk w1 g 250 cs) (ht : Turn (g :: blkOf A) w1 w5)
    (ho : w5.ownsRow base 210 4 (.slice A' n' c') n' (fsCells hs')) (hh : hs' = hs ∨ hs' = hs ++ [(f, Af, cf)]) (hf : w5.ownsRow base 5 1 (.slice Af f.bytes.length cf) f.bytes.length (u8s f.bytes)) : OwnFs w5 base A' n' c' hs' := by
  have h1 : ∀ x ∈ hs, w5.ownsRow base 5 1 (.slice x.2.1 x.1.bytes.length x.2.2) x.1.bytes.length (u8s x.1.bytes) := fun x hx => ht.own (h.2 x hx) fun r hr hc => by
    rcases List.mem_cons.1 hc with rfl | hc
    · exact blk_off (h.2 x hx) hb (by decide) hr
    · exact own_apart8 (h.2 x hx) h.1 r (by rw [blkOf_own hr]; simp) hc
  refine ⟨ho, fun x hx => ?_⟩
  rcases hh with rfl | rfl
  · exact h1 x hx
  · rcases List.mem_append.1 hx with hx | hx
    · exact h1 x hx
    · rw [List.mem_singleton.1 hx]
      exact hf
end Go.Proofs.YtjajbbgebblalaaGreatDoor

namespace Go.Proofs.YtjajbbgebblalaaGreatDoor
open Go.RowKit
set_option linter.unusedVariables false
set_option linter.unusedSimpArgs false
open Go.Maps
theorem Turn.map {F : List Nat} {a b : World} {P : Program} {H : Type} {k : TypeId} {R : Value → Option (DataW H × List MemPlace)} {m n : Nat} {D : DataW H} (h : Turn F a b) (ho : a.ownsMap P k R m n D) (hn : m ∉ F) : b.ownsMap P k R m n D := by
  have hlt := ho.lt
  obtain ⟨es, clock, hb, F', hs, hD⟩ := ho
  exact ⟨es, clock, (h.block m hlt hn).trans hb, F', hs, hD⟩
/-- How an element reads: as itself. -/
def tokR (v : Value) : Option (DataW Value × List MemPlace) := some (.held v, [])
def OwnM (w : World) (b : Nat) (D : DataW Value) : Prop := ∃ n, n ≤ 4096 ∧ w.ownsMap Tryz.prog 3 tokR b n D
def tgLit (t : Int) : Lit := .int .i64 t
def IsI (t : Int) : Prop := -9223372036854775808 ≤ t ∧ t ≤ 9223372036854775807
theorem key_int (t : Int) (h : IsI t) : keyOf Tryz.prog 3 (.int .i64 t) = some (tgLit t) := Maps.keyOf_int_mk Tryz.underlying3 (by unfold IsI at h; simp [Lit.wf, IntKind.min, IntKind.max, IntKind.signed, IntKind.bits]; omega)
theorem key_law : Keyed Tryz.prog 3 := int_keyed Tryz.underlying3
theorem tgLit_inj {a b : Int} (h : tgLit a = tgLit b) : a = b := by unfold tgLit at h; injection h
theorem isKey (t : Int) : WideAt.IsKeyLit (tgLit t) := by unfold tgLit; trivial
def fldV (h : Held) : Value := .agg (fcells h.1 h.2.1 h.2.2)
/-- The map holds just the fields of l, each by its tag. -/
def MapL (D : DataW Value) (l : List Held) : Prop :=
  Tidy D ∧ Maps.size D = l.length ∧ (l.map (·.1.tag)).Nodup ∧ (∀ t, Maps.has D (tgLit t) = l.any fun p => decide (p.1.tag = t)) ∧ ∀ h ∈ l, ∀ z, D.atKey (tgLit h.1.tag) z = .held (fldV h)
theorem map_nil : MapL (.map []) [] := ⟨tidy_empty, rfl, List.nodup_nil, fun _ => rfl, fun _ h => by cases h⟩
theorem map_put {D : DataW Value} {l : List Held} (h : MapL D l) (f : Held) (hn : ∀ x ∈ l, x.1.tag ≠ f.1.tag) : MapL (D.put (tgLit f.1.tag) (.held (fldV f))) (l ++ [f]) := by
  obtain ⟨h1, h2, h3, h4, h5⟩ := h
  have hno : Maps.has D (tgLit f.1.tag) = false := by
    rw [h4, List.any_eq_false]
    intro x hx
    simpa using hn x hx
  refine ⟨h1.put (isKey _) _, ?_, ?_, fun k => ?_, fun q hq z => ?_⟩
  · rw [size_put h1, hno]; simp [h2]
  · rw [List.map_append, List.nodup_append]
    refine ⟨h3, by simp, fun a ha b hb => ?_⟩
    simp only [List.map_cons, List.map_nil, List.mem_singleton] at hb
    subst hb
    obtain ⟨x, hx, rfl⟩ := List.mem_map.1 ha
    exact hn x hx
  · by_cases hk : k = f.1.tag
    · subst hk; rw [has_put_same h1.isMap (isKey _)]; simp
    · rw [has_put_other (fun hc => hk (tgLit_inj hc)), h4]
      have : ¬ f.1.tag = k := fun hc => hk hc.symm
      simp [this]
  · rcases List.mem_append.1 hq with hq | hq
    · rw [atKey_put_other (fun hc => hn _ hq (tgLit_inj hc))]; exact h5 q hq z
    · rw [List.mem_singleton.1 hq]
      exact atKey_put_same h1.isMap (isKey _) _ _
def strike (t : Int) (l : List Held) : List Held := l.filter fun h => decide (h.1.tag ≠ t)
theorem map_del {D : DataW Value} {l : List Held} (h : MapL D l) (t : Int) : MapL (D.del (tgLit t)) (strike t l) := by
  obtain ⟨h1, h2, h3, h4, h5⟩ := h
  have hnd : (strike t l).length + (if l.any (fun p => decide (p.1.tag = t)) then 1 else 0) = l.length := by
    clear h2 h4 h5
    unfold strike
    induction l with
    | nil => rfl
    | cons a l ih =>
      rw [List.map_cons, List.nodup_cons] at h3
      have ih := ih h3.2
      by_cases ha : a.1.tag = t
      · have hno : l.any (fun p => decide (p.1.tag = t)) = false := by
          rw [List.any_eq_false]
          intro x hx hc
          exact h3.1 (List.mem_map.2 ⟨x, hx, by rw [ha]; simpa using hc⟩)
        rw [hno] at ih
        simp [ha] at ih ⊢
        exact ih
      · rw [List.filter_cons_of_pos (by simpa using ha), List.any_cons, show decide (a.1.tag = t) = false by simpa using ha, Bool.false_or, List.length_cons, List.length_cons]
        omega
  refine ⟨h1.del _, ?_, ?_, fun k => ?_, fun q hq z => ?_⟩
  · have := size_del (k := tgLit t) h1
    rw [h4] at this
    omega
  · exact (List.Sublist.map _ List.filter_sublist).nodup h3
  · by_cases hk : k = t
    · subst hk
      rw [has_del_same]
      symm
      rw [List.any_eq_false]
      intro x hx
      have := (List.mem_filter.1 hx).2
      simpa using this
    · rw [has_del_other (fun hc => hk (tgLit_inj hc)), h4]
      rw [Bool.eq_iff_iff]
      simp only [List.any_eq_true, List.mem_filter, strike, decide_eq_true_eq]
      constructor
      · rintro ⟨x, hx, rfl⟩
        exact ⟨x, ⟨hx, hk⟩, rfl⟩
      · rintro ⟨x, ⟨hx, _⟩, rfl⟩
        exact ⟨x, hx, rfl⟩
  · have hq2 := List.mem_filter.1 hq
    rw [atKey_del_other (fun hc => by simp at hq2; exact hq2.2 (tgLit_inj hc))]
    exact h5 q hq2.1 z
theorem zero_fld (w : World) : (zeroValue 210).run Tryz.prog w = .ok (.agg (fcells noFld none 0)) w := by kernel_rfl
theorem look_hit {w : World} {b : Nat} {D : DataW Value} {l : List Held} (ho : OwnM w b D) (hm : MapL D l) {f : Held} (hl : f ∈ l) (hs : IsI f.1.tag) :
    (Instr.lookup 261 (.map (some b)) (.int .i64 f.1.tag) true).run Tryz.prog w = .ok (.tuple #[fldV f, .bool true]) w := by
  obtain ⟨n, _, ho⟩ := ho
  obtain ⟨v, ps, hr, hv⟩ := ho.look_ok key_law Tryz.underlying261 (zero_fld w) (zd := .held (.agg (fcells noFld none 0))) rfl (key_int _ hs)
  rw [hm.2.2.2.2 f hl] at hv
  simp only [tokR, Option.some.injEq, Prod.mk.injEq, DataW.held.injEq] at hv
  rw [hr, hv.1, hm.2.2.2.1]
  have : (l.any fun p => decide (p.1.tag = f.1.tag)) = true := List.any_eq_true.2 ⟨f, hl, by simp⟩
  rw [this]
theorem look_miss {w : World} {b : Nat} {D : DataW Value} {l : List Held} (ho : OwnM w b D) (hm : MapL D l) {t : Int} (hl : ∀ x ∈ l, x.1.tag ≠ t) (hs : IsI t) :
    (Instr.lookup 261 (.map (some b)) (.int .i64 t) true).run Tryz.prog w = .ok (.tuple #[.agg (fcells noFld none 0), .bool false]) w := by
  obtain ⟨n, _, ho⟩ := ho
  obtain ⟨v, ps, hr, hv⟩ := ho.look_ok key_law Tryz.underlying261 (zero_fld w) (zd := .held (.agg (fcells noFld none 0))) rfl (key_int _ hs)
  have hno : Maps.has D (tgLit t) = false := by
    rw [hm.2.2.2.1, List.any_eq_false]
    intro x hx
    simpa using hl x hx
  rw [atKey_of_not_has hno] at hv
  simp only [tokR, Option.some.injEq, Prod.mk.injEq, DataW.held.injEq] at hv
  rw [hr, ← hv.1, hno]
theorem map_len {w : World} {b : Nat} {D : DataW Value} {l : List Held} (ho : OwnM w b D) (hm : MapL D l) (ty : TypeId) : (Builtin.len_ #[261] ty #[.map (some b)]).run Tryz.prog w = .ok (.int .i64 (l.length : Nat)) w := by
  obtain ⟨n, _, ho⟩ := ho
  rw [ho.len Tryz.underlying261 ty, hm.2.1]
theorem map_store {w : World} {b : Nat} {D : DataW Value} {l : List Held} (ho : OwnM w b D) (hm : MapL D l) (hl : l.length ≤ 4000) (f : Held) (hs : IsI f.1.tag) :
    ∃ w', (Instr.mapUpdate 261 (.map (some b)) (.int .i64 f.1.tag) (fldV f)).run Tryz.prog w = .ok () w' ∧ OwnM w' b (D.put (tgLit f.1.tag) (.held (fldV f))) ∧ w.grownBy w' (some b) := by
  obtain ⟨n, _, es, clock, hb, F, _, hD⟩ := ho
  have hsz : es.size ≤ 4000 := by
    have := hm.2.1
    rw [hD] at this
    simp [Maps.size, length_sorted] at this
    omega
  have ho : w.ownsMap Tryz.prog 3 tokR b 4000 D := ⟨es, clock, hb, F, hsz, hD⟩
  obtain ⟨w', h1, h2, h3⟩ := ho.update key_law Tryz.underlying261 (by simp only [maxLen]; omega) (key_int _ hs) (val := fldV f) (d := .held (fldV f)) (ps := []) rfl
  exact ⟨w', h1, ⟨4001, by omega, h2⟩, h3⟩
theorem map_drop {w : World} {b : Nat} {D : DataW Value} (ho : OwnM w b D) {t : Int} (hs : IsI t) (ty : TypeId) :
    ∃ w', (Builtin.delete_ #[261, 3] ty #[.map (some b), .int .i64 t]).run Tryz.prog w = .ok (.tuple #[]) w' ∧ OwnM w' b (D.del (tgLit t)) ∧ w.grownBy w' (some b) := by
  obtain ⟨n, hn, ho⟩ := ho
  obtain ⟨w', h1, h2, es, clock, es', clock', h3, rfl⟩ := ho.drop key_law Tryz.underlying261 (key_int t hs) ty
  exact ⟨_, h1, ⟨n, hn, h2⟩, ⟨rfl, rfl, rfl, by simp [ChangeMaps.setBlock], fun i _ hi => ChangeMaps.heap_setBlock_other h3 _ (fun e => hi (by rw [e]))⟩⟩
end Go.Proofs.YtjajbbgebblalaaGreatDoor
