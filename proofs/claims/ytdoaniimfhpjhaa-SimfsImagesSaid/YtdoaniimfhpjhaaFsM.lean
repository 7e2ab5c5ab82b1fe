/-
  A disk in memory: blocks that turn, maps of pointers, files.
-/
import Derived.Test.YtdoaniimfhpjhaaFsR
import Derived.Maps.OwnSet
namespace Go.Proofs.Ytdoaniimfhpjhaa
open Go.RowKit
set_option linter.unusedVariables false
set_option linter.unusedSimpArgs false
open Go.Maps
/-- Every block of w but those of F stands in w'. -/
structure Turn (F : List Nat) (w w' : World) : Prop where
  os : w'.os = w.os
  tape : w'.tape = w.tape
  output : w'.output = w.output
  size : w.heap.size ≤ w'.heap.size
  block : ∀ k, k < w.heap.size → k ∉ F → w'.heap[k]? = w.heap[k]?
theorem Turn.refl (F : List Nat) (w : World) : Turn F w w := ⟨rfl, rfl, rfl, Nat.le_refl _, fun _ _ _ => rfl⟩
theorem Turn.trans {F F' : List Nat} {a b c : World} (h : Turn F a b) (h2 : Turn F' b c) (hf : ∀ r ∈ F', r ∈ F ∨ a.heap.size ≤ r) : Turn F a c :=
  ⟨h2.os.trans h.os, h2.tape.trans h.tape, h2.output.trans h.output, Nat.le_trans h.size h2.size, fun k hk hn => (h2.block k (Nat.lt_of_lt_of_le hk h.size) (fun hc => by
    rcases hf k hc with h3 | h3
    · exact hn h3
    · omega)).trans (h.block k hk hn)⟩
theorem Turn.tr {F : List Nat} {a b c : World} (h : Turn F a b) (h2 : Turn F b c) : Turn F a c := h.trans h2 fun _ hr => .inl hr
theorem Turn.mono {F F' : List Nat} {a b : World} (h : Turn F a b) (hf : ∀ r ∈ F, r ∈ F' ∨ a.heap.size ≤ r) : Turn F' a b :=
  ⟨h.os, h.tape, h.output, h.size, fun k hk hn => h.block k hk (fun hc => by
    rcases hf k hc with h3 | h3
    · exact hn h3
    · omega)⟩
theorem Ext.turn {a b : World} (h : Ext a b) (F : List Nat) : Turn F a b := ⟨h.os, h.tape, h.output, h.size, fun k hk _ => h.block k hk⟩
theorem Turn.ext {W a b : World} {F : List Nat} (hx : Ext W a) (h : Turn F a b) (hf : ∀ r ∈ F, W.heap.size ≤ r) : Ext W b :=
  ⟨h.os.trans hx.os, h.tape.trans hx.tape, h.output.trans hx.output, Nat.le_trans hx.size h.size, fun k hk => (h.block k (Nat.lt_of_lt_of_le hk hx.size) (fun hc => by have := hf k hc; omega)).trans (hx.block k hk)⟩
theorem Turn.ext0 {a b : World} (h : Turn [] a b) : Ext a b := h.ext (Ext.rfl' a) (fun _ hr => by cases hr)
theorem grown_turn {a b : World} {row : Option Nat} (h : a.grownBy b row) {F : List Nat} (hf : ∀ r, row = some r → r ∈ F ∨ a.heap.size ≤ r) : Turn F a b :=
  ⟨h.os, h.tape, h.output, h.size, fun k hk hn => h.block k hk (fun hc => by
    rcases hf k hc.symm with h3 | h3
    · exact hn h3
    · omega)⟩
theorem Turn.cell {F : List Nat} {a : World} {p : Addr} {v : Value} (hp : p.block ∈ F) : Turn F a (a.setCell p v) :=
  ⟨rfl, rfl, rfl, by simp, fun k _ hn => Below.heap_setCell a p v k (fun hc => hn (by rw [hc]; exact hp))⟩
theorem Turn.blk {F : List Nat} {a b : World} {g : Nat} {t : TypeId} {cs : Array Value} (h : Turn F a b) (hb : Blk a g t cs) (hn : g ∉ F) : Blk b g t cs := (h.block g hb.lt hn).trans hb
theorem Turn.own {F : List Nat} {a b : World} {base s n : Nat} {e : TypeId} {v : Value} {xs : List Value} (h : Turn F a b) (ho : a.ownsRow base e s v n xs) (hn : ∀ r, v.ownBlock = some r → r ∉ F) : b.ownsRow base e s v n xs :=
  own_heap ho fun g hg => h.block g (ho.lt g hg).2 (hn g hg)
theorem Turn.map {F : List Nat} {a b : World} {P : Program} {H : Type} {k : TypeId} {R : Value → Option (DataW H × List MemPlace)} {m n : Nat} {D : DataW H} (h : Turn F a b) (ho : a.ownsMap P k R m n D) (hn : m ∉ F) : b.ownsMap P k R m n D := by
  have hlt := ho.lt
  obtain ⟨es, clock, hb, F', hs, hD⟩ := ho
  exact ⟨es, clock, (h.block m hlt hn).trans hb, F', hs, hD⟩
/-- How an element reads: as itself. -/
def tokR (v : Value) : Option (DataW Value × List MemPlace) := some (.held v, [])
def OwnM (w : World) (b : Nat) (D : DataW Value) : Prop := ∃ n, n ≤ 4096 ∧ w.ownsMap Try.prog 9 tokR b n D
def nmLit (s : ByteArray) : Lit := .string s.data.toList
theorem key_str (s : ByteArray) (hs : s.size ≤ maxLen) : keyOf Try.prog 9 (.string s) = some (nmLit s) := Go.WideMaps.keyOf_string_mk Try.underlying9 hs
theorem key_law : Keyed Try.prog 9 := string_keyed Try.underlying9
theorem nmLit_inj {a b : ByteArray} (h : nmLit a = nmLit b) : a = b := by
  unfold nmLit at h
  injection h with h
  cases a; cases b; congr 1; exact Array.toList_inj.1 h
def ptrV (p : Nat) : Value := .pointer (some ⟨p, 0, none⟩)
/-- The map holds just the names of l, each with its pointer. -/
def MapL (D : DataW Value) (l : List (ByteArray × Nat)) : Prop :=
  Tidy D ∧ Maps.size D = l.length ∧ (l.map (·.1)).Nodup ∧ (∀ nm, Maps.has D (nmLit nm) = l.any fun p => decide (p.1 = nm)) ∧ ∀ nm p, (nm, p) ∈ l → ∀ z, D.atKey (nmLit nm) z = .held (ptrV p)
theorem map_nil : MapL (.map []) [] := ⟨tidy_empty, rfl, List.nodup_nil, fun _ => rfl, fun _ _ h => by cases h⟩
theorem isKey (s : ByteArray) : WideAt.IsKeyLit (nmLit s) := by unfold nmLit; trivial
theorem map_put {D : DataW Value} {l : List (ByteArray × Nat)} (h : MapL D l) (nm : ByteArray) (p : Nat) (hn : ∀ x ∈ l, x.1 ≠ nm) : MapL (D.put (nmLit nm) (.held (ptrV p))) (l ++ [(nm, p)]) := by
  obtain ⟨h1, h2, h3, h4, h5⟩ := h
  have hno : Maps.has D (nmLit nm) = false := by
    rw [h4, List.any_eq_false]
    intro x hx
    simpa using hn x hx
  refine ⟨h1.put (isKey nm) _, ?_, ?_, fun k => ?_, fun k q hq z => ?_⟩
  · rw [size_put h1, hno]; simp [h2]
  · rw [List.map_append, List.nodup_append]
    refine ⟨h3, by simp, fun a ha b hb => ?_⟩
    simp only [List.map_cons, List.map_nil, List.mem_singleton] at hb
    subst hb
    obtain ⟨x, hx, rfl⟩ := List.mem_map.1 ha
    exact hn x hx
  · by_cases hk : k = nm
    · subst hk; rw [has_put_same h1.isMap (isKey _)]; simp
    · rw [has_put_other (fun hc => hk (nmLit_inj hc)), h4]
      have : ¬ nm = k := fun hc => hk hc.symm
      simp [this]
  · rcases List.mem_append.1 hq with hq | hq
    · rw [atKey_put_other (fun hc => hn _ hq (nmLit_inj hc))]; exact h5 k q hq z
    · simp only [List.mem_singleton, Prod.mk.injEq] at hq
      obtain ⟨rfl, rfl⟩ := hq
      exact atKey_put_same h1.isMap (isKey _) _ _
theorem zero_ptr (w : World) : (zeroValue 76).run Try.prog w = .ok (.pointer none) w := by kernel_rfl
theorem look_hit {w : World} {b : Nat} {D : DataW Value} {l : List (ByteArray × Nat)} (ho : OwnM w b D) (hm : MapL D l) {nm : ByteArray} {p : Nat} (hl : (nm, p) ∈ l) (hs : nm.size ≤ maxLen) :
    (Instr.lookup 55 (.map (some b)) (.string nm) false).run Try.prog w = .ok (ptrV p) w := by
  obtain ⟨n, _, ho⟩ := ho
  obtain ⟨v, ps, hr, hv⟩ := ho.lookup key_law Try.underlying55 (zero_ptr w) (zd := .held (.pointer none)) rfl (key_str nm hs)
  rw [hm.2.2.2.2 nm p hl] at hv
  simp only [tokR, Option.some.injEq, Prod.mk.injEq, DataW.held.injEq] at hv
  rw [hr, hv.1]
theorem look_miss {w : World} {b : Nat} {D : DataW Value} {l : List (ByteArray × Nat)} (ho : OwnM w b D) (hm : MapL D l) {nm : ByteArray} (hl : ∀ x ∈ l, x.1 ≠ nm) (hs : nm.size ≤ maxLen) :
    (Instr.lookup 55 (.map (some b)) (.string nm) false).run Try.prog w = .ok (.pointer none) w := by
  obtain ⟨n, _, ho⟩ := ho
  obtain ⟨v, ps, hr, hv⟩ := ho.lookup key_law Try.underlying55 (zero_ptr w) (zd := .held (.pointer none)) rfl (key_str nm hs)
  have hno : Maps.has D (nmLit nm) = false := by
    rw [hm.2.2.2.1, List.any_eq_false]
    intro x hx
    simpa using hl x hx
  rw [atKey_of_not_has hno] at hv
  simp only [tokR, Option.some.injEq, Prod.mk.injEq, DataW.held.injEq] at hv
  rw [hr, hv.1]
theorem map_len {w : World} {b : Nat} {D : DataW Value} {l : List (ByteArray × Nat)} (ho : OwnM w b D) (hm : MapL D l) (ty : TypeId) : (Builtin.len_ #[55] ty #[.map (some b)]).run Try.prog w = .ok (.int .i64 (l.length : Nat)) w := by
  obtain ⟨n, _, ho⟩ := ho
  rw [ho.len Try.underlying55 ty, hm.2.1]
theorem map_store {w : World} {b : Nat} {D : DataW Value} {l : List (ByteArray × Nat)} (ho : OwnM w b D) (hm : MapL D l) (hl : l.length ≤ 4000) {nm : ByteArray} (p : Nat) (hs : nm.size ≤ maxLen) :
    ∃ w', (Instr.mapUpdate 55 (.map (some b)) (.string nm) (ptrV p)).run Try.prog w = .ok () w' ∧ OwnM w' b (D.put (nmLit nm) (.held (ptrV p))) ∧ w.grownBy w' (some b) := by
  obtain ⟨n, _, es, clock, hb, F, _, hD⟩ := ho
  have hsz : es.size ≤ 4000 := by
    have := hm.2.1
    rw [hD] at this
    simp [Maps.size, length_sorted] at this
    omega
  have ho : w.ownsMap Try.prog 9 tokR b 4000 D := ⟨es, clock, hb, F, hsz, hD⟩
  obtain ⟨w', h1, h2, h3⟩ := ho.update key_law Try.underlying55 (by simp only [maxLen]; omega) (key_str nm hs) (val := ptrV p) (d := .held (ptrV p)) (ps := []) rfl
  exact ⟨w', h1, ⟨4001, by omega, h2⟩, h3⟩
end Go.Proofs.Ytdoaniimfhpjhaa
