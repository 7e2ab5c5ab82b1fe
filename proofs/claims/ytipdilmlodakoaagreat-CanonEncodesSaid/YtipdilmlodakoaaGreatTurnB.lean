/-
  Blocks that turn: every block of a world but those of a list stands in the other. Appends to rows of fields, wherever the row lies.
-/
import Derived.Test.YtipdilmlodakoaaGreatFsC
namespace Go.Proofs.YtipdilmlodakoaaGreat
open Go.RowKit
set_option linter.unusedVariables false
set_option linter.unusedSimpArgs false
/-- Every block of w but those of F stands in w'. -/
structure Turn (F : List Nat) (w w' : World) : Prop where
  os : w'.os = w.os
  tape : w'.tape = w.tape
  output : w'.output = w.output
  size : w.heap.size ≤ w'.heap.size
  block : ∀ k, k < w.heap.size → k ∉ F → w'.heap[k]? = w.heap[k]?
theorem Turn.refl (F : List Nat) (w : World) : Turn F w w := ⟨rfl, rfl, rfl, Nat.le_refl _, fun _ _ _ => rfl⟩
theorem Turn.trans {F F' : List Nat} {a b c : World} (h : Turn F a b) (h2 : Turn F' b c) (hf : ∀ r ∈ F', r ∈ F ∨ a.heap.size ≤ r) : Turn F a c :=
  ⟨h2.os.trans h.os, h2.tape.trans h.tape, h2.output.trans h.output, Nat.le_trans h.size h2.size, fun k hk hn => (h2.block k (Nat.lt_of_lt_of_le hk h.size) (fun hc => by
    rcases hf k hc with h3 | h3
    · exact hn h3
    · omega)).trans (h.block k hk hn)⟩
theorem Turn.tr {F : List Nat} {a b c : World} (h : Turn F a b) (h2 : Turn F b c) : Turn F a c := h.trans h2 fun _ hr => .inl hr
theorem Turn.mono {F F' : List Nat} {a b : World} (h : Turn F a b) (hf : ∀ r ∈ F, r ∈ F' ∨ a.heap.size ≤ r) : Turn F' a b :=
  ⟨h.os, h.tape, h.output, h.size, fun k hk hn => h.block k hk (fun hc => by
    rcases hf k hc with h3 | h3
    · exact hn h3
    · omega)⟩
theorem Ext.turn {a b : World} (h : Ext a b) (F : List Nat) : Turn F a b := ⟨h.os, h.tape, h.output, h.size, fun k hk _ => h.block k hk⟩
theorem Turn.ext {W a b : World} {F : List Nat} (hx : Ext W a) (h : Turn F a b) (hf : ∀ r ∈ F, W.heap.size ≤ r) : Ext W b :=
  ⟨h.os.trans hx.os, h.tape.trans hx.tape, h.output.trans hx.output, Nat.le_trans hx.size h.size, fun k hk => (h.block k (Nat.lt_of_lt_of_le hk hx.size) (fun hc => by have := hf k hc; omega)).trans (hx.block k hk)⟩
theorem Turn.ext0 {a b : World} (h : Turn [] a b) : Ext a b := h.ext (Ext.rfl' a) (fun _ hr => by cases hr)
theorem grown_turn {a b : World} {row : Option Nat} (h : a.grownBy b row) {F : List Nat} (hf : ∀ r, row = some r → r ∈ F ∨ a.heap.size ≤ r) : Turn F a b :=
  ⟨h.os, h.tape, h.output, h.size, fun k hk hn => h.block k hk (fun hc => by
    rcases hf k hc.symm with h3 | h3
    · exact hn h3
    · omega)⟩
theorem Turn.cell {F : List Nat} {a : World} {p : Addr} {v : Value} (hp : p.block ∈ F) : Turn F a (a.setCell p v) :=
  ⟨rfl, rfl, rfl, by simp, fun k _ hn => Below.heap_setCell a p v k (fun hc => hn (by rw [hc]; exact hp))⟩
theorem Turn.blk {F : List Nat} {a b : World} {g : Nat} {t : TypeId} {cs : Array Value} (h : Turn F a b) (hb : Blk a g t cs) (hn : g ∉ F) : Blk b g t cs := (h.block g hb.lt hn).trans hb
theorem Turn.own {F : List Nat} {a b : World} {base s n : Nat} {e : TypeId} {v : Value} {xs : List Value} (h : Turn F a b) (ho : a.ownsRow base e s v n xs) (hn : ∀ r, v.ownBlock = some r → r ∉ F) : b.ownsRow base e s v n xs :=
  own_heap ho fun g hg => h.block g (ho.lt g hg).2 (hn g hg)
/-- The block that a slice lies in. -/
def blkOf (A : Option Addr) : List Nat := (A.map (·.block)).toList
theorem blkOf_own {A : Option Addr} {n c r : Nat} (h : (Value.slice A n c).ownBlock = some r) : blkOf A = [r] := by
  cases A with
  | none => simp [Value.ownBlock] at h
  | some a => simp [Value.ownBlock] at h; simp [blkOf, h]
theorem own_blkOf {A : Option Addr} {n c r : Nat} (h : r ∈ blkOf A) : (Value.slice A n c).ownBlock = some r := by
  cases A with
  | none => simp [blkOf] at h
  | some a => simp [blkOf] at h; simp [Value.ownBlock, h]
theorem blkOf_nil : blkOf none = [] := rfl
theorem blkOf_some (a : Addr) : blkOf (some a) = [a.block] := rfl
theorem Turn.rd {F : List Nat} {a b : World} {s n : Nat} {A : Option Addr} {xs : List Value} (h : Turn F a b) (hr : RdN a s A n xs) (hn : ∀ r ∈ blkOf A, r ∉ F) : RdN b s A n xs :=
  ⟨hr.1, fun h0 => by
    obtain ⟨g, o, rfl, hc⟩ := hr.2 h0
    refine ⟨g, o, rfl, fun j u hu => ?_⟩
    have h1 := hc j u hu
    have hlt := World.block_lt_of_cell? _ _ h1
    exact (World.cell?_of_block (h.block g hlt (hn g (by simp [blkOf])))).trans h1⟩
theorem Turn.rd1 {F : List Nat} {a b : World} {n : Nat} {A : Option Addr} {xs : List Value} (h : Turn F a b) (hr : Rd a A n xs) (hn : ∀ r ∈ blkOf A, r ∉ F) : Rd b A n xs :=
  ⟨hr.1, fun h0 => by
    obtain ⟨g, o, rfl, hc⟩ := hr.2 h0
    refine ⟨g, o, rfl, fun j u hu => ?_⟩
    have h1 := hc j u hu
    have hlt := World.block_lt_of_cell? _ _ h1
    exact (World.cell?_of_block (h.block g hlt (hn g (by simp [blkOf])))).trans h1⟩
theorem blk_off {w : World} {base g : Nat} {e t : TypeId} {s n : Nat} {v : Value} {xs : List Value} {cs : Array Value} (h : w.ownsRow base e s v n xs) (hb : Blk w g t cs) (ht : t ≠ e) : v.ownBlock ≠ some g := by
  intro hc
  rcases h.2 with ⟨hv, _⟩ | ⟨g2, cap, cur, hv, _, hg2, _⟩
  · rw [hv] at hc; cases hc
  · rw [hv] at hc
    simp only [Value.ownBlock, Option.some.injEq] at hc
    subst hc
    unfold Blk at hb
    rw [hb] at hg2
    simp at hg2
    exact ht hg2.2
theorem own_put {w : World} {base s n c g i : Nat} {e : TypeId} {A : Option Addr} {xs : List Value} {u : Value} (h : w.ownsRow base e s (.slice A n c) n xs) (hg : g ∉ blkOf A) : (w.setCell ⟨g, i, none⟩ u).ownsRow base e s (.slice A n c) n xs :=
  (Turn.cell (F := [g]) (p := ⟨g, i, none⟩) (by simp)).own h fun r hr hc => hg (by rw [blkOf_own hr]; simp at hc; simp [hc])
section
variable {w : World} {ops : Array Oper}
theorem step_appendFd {o : Oper} {a : Act} {K : Act → World → Prop} {Q : Exit → Act → World → Prop} {E : Prop} (hgd : o.guard = none) (d : Option Tmp) (hd : o.dst = d) (s x : Operand)
    (ho : o.op = .call { callee := .builtin .append, args := #[s, x], argTypes := #[43, 43] }) (base : Nat) (hbs : base ≤ w.heap.size)
    {A0 : Option Addr} {n0 c0 : Nat} {l : List Held} (hs : a.eval s = .slice A0 n0 c0) (hown : w.ownsRow base 70 4 (.slice A0 n0 c0) n0 (fsCells l))
    {A : Option Addr} {m c : Nat} {news : List Held} (hx : a.eval x = .slice A m c) (hr : RdN w 4 A m (fsCells news)) (hb : (l.length + news.length) * 48 ≤ 140737488355328)
    (hK : ∀ A' n' c' w', Hid (n' = l.length + news.length) → w'.ownsRow base 70 4 (.slice A' n' c') n' (fsCells (l ++ news)) → Turn (blkOf A0) w w' → (∀ r ∈ blkOf A', r ∈ blkOf A0 ∨ w.heap.size ≤ r) → K (a.put d (.slice A' n' c')) w') :
    if Region.wanted o (yielded ops a.tmps) = true then Oper.wp Tryz.prog o a w K Q else E := by
  subst hd
  have hwt : Region.wanted o (yielded ops a.tmps) = true := by simp [Region.wanted, hgd]
  rw [if_pos hwt]
  have e1 : n0 = l.length := by have := hown.1; rw [fsCells_len] at this; omega
  have e2 : news.length = m := by have := hr.1; rw [fsCells_len] at this; omega
  obtain ⟨v', w', hrun, h2, h3, h4⟩ := run_append_rd (P := Tryz.prog) base 43 o.type 70 _ 4 48 Tryz.underlying43 el_fld _ n0 _ hown A m c _ hr (fsCells_one _) (by simp only [maxLen]; omega) (by omega) hbs
  rw [← fsCells_app] at h2
  obtain ⟨A', c', rfl⟩ := own_slice h2
  unfold Oper.wp execOp
  simp only [ho, resolve, invoke, builtin, Sem.run_bind, Sem.run_pure, Result.andThen_ok, List.map_toArray, List.map_cons, List.map_nil, hs, hx, hrun]
  refine hK A' _ c' w' (Lib.hid (by omega)) h2 (grown_turn h3 fun r hr => .inl (by rw [blkOf_own hr]; simp)) (fun r hr => ?_)
  have hr' := own_blkOf (n := n0 + m) (c := c') hr
  rcases h4 with h4 | h4
  · rw [h4] at hr'
    exact .inl (by rw [blkOf_own hr']; simp)
  · rw [h4] at hr'
    injection hr' with hr'
    exact .inr (by omega)
theorem wpFd_append {rest : List Oper} {o : Oper} {a : Act} {Q : Exit → Act → World → Prop} (hgd : o.guard = none) (s x : Operand)
    (ho : o.op = .call { callee := .builtin .append, args := #[s, x], argTypes := #[43, 43] }) (base : Nat) (hbs : base ≤ w.heap.size)
    {A0 : Option Addr} {n0 c0 : Nat} {l : List Held} (hs : a.eval s = .slice A0 n0 c0) (hown : w.ownsRow base 70 4 (.slice A0 n0 c0) n0 (fsCells l))
    {A : Option Addr} {m c : Nat} {news : List Held} (hx : a.eval x = .slice A m c) (hr : RdN w 4 A m (fsCells news)) (hb : (l.length + news.length) * 48 ≤ 140737488355328)
    (h : ∀ A' n' c' w', Hid (n' = l.length + news.length) → w'.ownsRow base 70 4 (.slice A' n' c') n' (fsCells (l ++ news)) → Turn (blkOf A0) w w' → (∀ r ∈ blkOf A', r ∈ blkOf A0 ∨ w.heap.size ≤ r) → wpList Tryz.prog ops Q rest (a.put o.dst (.slice A' n' c')) w') :
    wpList Tryz.prog ops Q (o :: rest) a w := by
  have e1 : n0 = l.length := by have := hown.1; rw [fsCells_len] at this; omega
  have e2 : news.length = m := by have := hr.1; rw [fsCells_len] at this; omega
  refine wpL_append hgd s x 43 ho base 70 _ 4 48 Tryz.underlying43 el_fld _ n0 _ hs hown A m c _ hx hr (fsCells_one _) (n0 + m) (fsCells (l ++ news)) rfl (fsCells_app _ _).symm (by simp only [maxLen]; omega) (by rw [e1, ← e2]; exact hb) hbs ?_
  intro v' w' h2 h3 h4
  obtain ⟨A', c', rfl⟩ := own_slice h2
  refine h A' _ c' w' (Lib.hid (by omega)) h2 (grown_turn h3 fun r hr => .inl (by rw [blkOf_own hr]; simp)) (fun r hr => ?_)
  have hr' := own_blkOf (n := n0 + m) (c := c') hr
  rcases h4 with h4 | h4
  · rw [h4] at hr'
    exact .inl (by rw [blkOf_own hr']; simp)
  · rw [h4] at hr'
    injection hr' with hr'
    exact .inr (by omega)
end
end Go.Proofs.YtipdilmlodakoaaGreat
