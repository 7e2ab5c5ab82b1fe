/-
  Lists of slices in memory; rows of ints of the call's own.
-/
import Derived.Test.YtdoaniimfhpjhaaFsU
namespace Go.Proofs.Ytdoaniimfhpjhaa
open Go.RowKit
set_option linter.unusedVariables false
set_option linter.unusedSimpArgs false
open Go.Maps
/-- A list that a slice of slices holds: its elements, each with its address and capacity. -/
abbrev HB := List UInt8 × Option Addr × Nat
abbrev HI := List Int × Option Addr × Nat
def BsRd (w : World) (A : Option Addr) (hs : List HB) : Prop := Rd w A hs.length (hs.map fun h => .slice h.2.1 h.1.length h.2.2) ∧ ∀ h ∈ hs, Rd w h.2.1 h.1.length (u8s h.1) ∧ h.1.length ≤ 140737488351232
def IsRd (w : World) (A : Option Addr) (hs : List HI) : Prop := Rd w A hs.length (hs.map fun h => .slice h.2.1 h.1.length h.2.2) ∧ ∀ h ∈ hs, Rd w h.2.1 h.1.length (ints h.1) ∧ h.1.length * 8 ≤ 140737488351232 ∧ ∀ x ∈ h.1, IsI64 x
theorem BsRd.ext {w w' : World} {A : Option Addr} {hs : List HB} (h : BsRd w A hs) (hx : Ext w w') : BsRd w' A hs := ⟨h.1.ext hx, fun g hg => ⟨(h.2 g hg).1.ext hx, (h.2 g hg).2⟩⟩
theorem IsRd.ext {w w' : World} {A : Option Addr} {hs : List HI} (h : IsRd w A hs) (hx : Ext w w') : IsRd w' A hs := ⟨h.1.ext hx, fun g hg => ⟨(h.2 g hg).1.ext hx, (h.2 g hg).2⟩⟩
theorem bs_at {w : World} {A : Option Addr} {hs : List HB} (h : BsRd w A hs) {k : Nat} (hk : k < hs.length) :
    ∃ b o l B c, A = some ⟨b, o, none⟩ ∧ hs[k]? = some (l, B, c) ∧ w.cell? ⟨b, o + k, none⟩ = some (.slice B l.length c) ∧ Rd w B l.length (u8s l) ∧ l.length ≤ 140737488351232 := by
  obtain ⟨b, o, e, hc⟩ := h.1.2 (by omega)
  have hg : hs[k]? = some hs[k] := List.getElem?_eq_getElem hk
  exact ⟨b, o, hs[k].1, hs[k].2.1, hs[k].2.2, e, hg, hc k _ (by simp [hg]), h.2 _ (List.getElem_mem _)⟩
theorem is_at {w : World} {A : Option Addr} {hs : List HI} (h : IsRd w A hs) {k : Nat} (hk : k < hs.length) :
    ∃ b o l B c, A = some ⟨b, o, none⟩ ∧ hs[k]? = some (l, B, c) ∧ w.cell? ⟨b, o + k, none⟩ = some (.slice B l.length c) ∧ Rd w B l.length (ints l) ∧ l.length * 8 ≤ 140737488351232 ∧ ∀ x ∈ l, IsI64 x := by
  obtain ⟨b, o, e, hc⟩ := h.1.2 (by omega)
  have hg : hs[k]? = some hs[k] := List.getElem?_eq_getElem hk
  exact ⟨b, o, hs[k].1, hs[k].2.1, hs[k].2.2, e, hg, hc k _ (by simp [hg]), h.2 _ (List.getElem_mem _)⟩
theorem el_int : Elem Try.prog 3 (.int .i64 0) 1 8 := ⟨by kernel_rfl, rfl, by decide⟩
theorem one_int (l : List Int) : ∀ u ∈ ints l, u.oneCell' = true := fun u hu => by simp [ints] at hu; obtain ⟨x, _, rfl⟩ := hu; rfl
theorem ints_len (l : List Int) : (ints l).length = l.length := by simp [ints]
theorem ints_app (l m : List Int) : ints (l ++ m) = ints l ++ ints m := by simp [ints]
section
variable {w : World}
theorem wpI_append {ops : Array Oper} {rest : List Oper} {o : Oper} {a : Act} {Q : Exit → Act → World → Prop} (hgd : o.guard = none) (s x : Operand)
    (ho : o.op = .call { callee := .builtin .append, args := #[s, x], argTypes := #[32, 32] }) (base : Nat)
    {A0 : Option Addr} {n0 c0 : Nat} {l : List Int} (hs : a.eval s = .slice A0 n0 c0) (hown : w.ownsRow base 3 1 (.slice A0 n0 c0) n0 (ints l)) (hbase : base ≤ w.heap.size)
    {A : Option Addr} {m c : Nat} {news : List Int} (hx : a.eval x = .slice A m c) (hr : Rd w A m (ints news)) (n' : Nat) (l' : List Int) (hn' : n0 + m = n') (hl' : l ++ news = l') (hb : n' * 8 ≤ 140737488355328)
    (h : ∀ A' c' w', w'.ownsRow base 3 1 (.slice A' n' c') n' (ints l') → w.grownBy w' (Value.slice A0 n0 c0).ownBlock →
      wpList Try.prog ops Q rest (a.put o.dst (.slice A' n' c')) w') : wpList Try.prog ops Q (o :: rest) a w := by
  subst hn' hl'
  refine wpL_append hgd s x 32 ho base 3 _ 1 8 Try.underlying32 el_int _ n0 _ hs hown A m c _ hx hr.toN (one_int _) (n0 + m) (ints (l ++ news)) rfl (ints_app _ _).symm (by simp only [maxLen]; omega) hb hbase ?_
  intro v' w' hown' hg _
  obtain ⟨A', c', rfl⟩ := own_slice hown'
  exact h A' c' w' hown' hg
end
theorem own_emptyI (w : World) (base : Nat) (hb : base ≤ w.heap.size) : (w.alloc (.cells #[] 3)).ownsRow base 3 1 (.slice (some ⟨w.heap.size, 0, none⟩) 0 0) 0 (ints []) := own_new w base #[] _ 0 hb (by decide) rfl
theorem rdI_turn {F : List Nat} {w w' : World} {base n c : Nat} {A : Option Addr} {l : List Int} (h : w.ownsRow base 3 1 (.slice A n c) n (ints l)) (ht : Turn F w w') (hn : ∀ r, (Value.slice A n c).ownBlock = some r → r ∉ F) : Rd w' A n (ints l) := Rd.of_own (ht.own h hn)
/-- A row laid behind a disk is none of the disk's. -/
theorem own_off {W w w1 : World} {g b : Nat} {d : Dk} {D : DataW Value} {hs : List HF} (h : FsX W w g d b D hs) {e : TypeId} {s n : Nat} {v : Value} {xs : List Value} (ho : w1.ownsRow w.heap.size e s v n xs) : ∀ r, v.ownBlock = some r → r ∉ foot g b hs := fun r hr hc => by
  have h1 := (ho.lt r hr).1
  have h2 := h.lt r hc
  omega
/-- What is none of the disk's stays so, and stays. -/
theorem FsTo.off {W w w' : World} {g b : Nat} {hs hs' : List HF} {r : Nat} (hf : ∀ r ∈ foot g b hs', r ∈ foot g b hs ∨ w.heap.size ≤ r) (hr : r ∉ foot g b hs) (hl : r < w.heap.size) : r ∉ foot g b hs' := fun hc => by
  rcases hf r hc with h | h
  · exact hr h
  · omega
/-- A row that is none of the disk's. -/
def Off (w : World) (F : List Nat) (base : Nat) (e : TypeId) (s : Nat) (v : Value) (n : Nat) (xs : List Value) : Prop := w.ownsRow base e s v n xs ∧ ∀ r, v.ownBlock = some r → r ∉ F
section
variable {w w' : World} {F F' : List Nat} {base s n : Nat} {e : TypeId} {v : Value} {xs : List Value}
theorem Off.own (h : Off w F base e s v n xs) : w.ownsRow base e s v n xs := h.1
theorem Off.ext (h : Off w F base e s v n xs) (hx : Ext w w') : Off w' F base e s v n xs := ⟨own_ext hx h.1, h.2⟩
theorem Off.to (h : Off w F base e s v n xs) (ht : Turn F w w') (hf : ∀ r ∈ F', r ∈ F ∨ w.heap.size ≤ r) : Off w' F' base e s v n xs :=
  ⟨ht.own h.1 h.2, fun r hr hc => by
    rcases hf r hc with h1 | h1
    · exact h.2 r hr h1
    · have := (h.1.lt r hr).2; omega⟩
end
end Go.Proofs.Ytdoaniimfhpjhaa
