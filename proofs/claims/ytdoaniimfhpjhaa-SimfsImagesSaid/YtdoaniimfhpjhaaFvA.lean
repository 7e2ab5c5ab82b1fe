/-
  Files by value (api.File) in memory: lists that read, lists of the call's own; steps of drawn regions for them.
-/
import Derived.Test.YtdoaniimfhpjhaaFsP
import Derived.Deep.MidRow
import Derived.Deep.RegionHeld3
namespace Go.Proofs.Ytdoaniimfhpjhaa
open Go.RowKit
set_option linter.unusedVariables false
set_option linter.unusedSimpArgs false
structure FV where
  name : ByteArray
  data : List UInt8
  safe : Int
abbrev HV := FV × Option Addr × Nat
def flcells (v : FV) (A : Option Addr) (c : Nat) : Array Value := #[.string v.name, .slice A v.data.length c, .int .i64 v.safe]
def flCells (hs : List HV) : List Value := hs.flatMap fun h => (flcells h.1 h.2.1 h.2.2).toList
theorem fil_wide : Wide Try.prog 49 3 := ⟨⟨_, Try.underlying49, rfl⟩, by kernel_rfl⟩
theorem el_fil : Elem Try.prog 49 (.agg (flcells ⟨⟨#[]⟩, [], 0⟩ none 0)) 3 48 := ⟨by kernel_rfl, rfl, by decide⟩
theorem alloc_fil (w : World) : (Instr.alloc 49 true (.tuple #[])).run Try.prog w = .ok (.pointer (some ⟨w.heap.size, 0, none⟩)) (w.alloc (.cells (flcells ⟨⟨#[]⟩, [], 0⟩ none 0) 49)) := by kernel_rfl
theorem flcells_one (v : FV) (A : Option Addr) (c : Nat) : ∀ u ∈ (flcells v A c).toList, u.oneCell' = true := fun u hu => by
  simp only [flcells, List.mem_cons, List.not_mem_nil, or_false] at hu
  rcases hu with rfl | rfl | rfl <;> rfl
theorem flCells_one (hs : List HV) : ∀ u ∈ flCells hs, u.oneCell' = true := fun u hu => by
  simp only [flCells, List.mem_flatMap] at hu
  obtain ⟨h, _, hu⟩ := hu
  exact flcells_one _ _ _ u hu
theorem flCells_len (hs : List HV) : (flCells hs).length = hs.length * 3 := by
  induction hs with
  | nil => rfl
  | cons h r ih => simp only [flCells, List.flatMap_cons, List.length_append] at ih ⊢; rw [ih]; simp [flcells]; omega
theorem flCells_app (hs gs : List HV) : flCells (hs ++ gs) = flCells hs ++ flCells gs := by simp [flCells]
theorem flCells_at (hs : List HV) (k j : Nat) (h : HV) (hk : hs[k]? = some h) (hj : j < 3) : (flCells hs)[k * 3 + j]? = (flcells h.1 h.2.1 h.2.2).toList[j]? := by
  induction hs generalizing k with
  | nil => simp at hk
  | cons g r ih =>
    have e : flCells (g :: r) = (flcells g.1 g.2.1 g.2.2).toList ++ flCells r := by simp [flCells]
    rw [e]
    cases k with
    | zero =>
      simp at hk
      subst hk
      rw [List.getElem?_append_left (by simp [flcells]; omega)]
      simp
    | succ k =>
      rw [List.getElem?_append_right (by simp [flcells]; omega)]
      have : (k + 1) * 3 + j - (flcells g.1 g.2.1 g.2.2).toList.length = k * 3 + j := by simp [flcells]; omega
      rw [this]
      exact ih k (by simpa using hk)
/-- A slice of files that reads as fs. -/
def FlRd (w : World) (A : Option Addr) (n : Nat) (fs : List FV) : Prop :=
  ∃ hs : List HV, hs.map (·.1) = fs ∧ RdN w 3 A n (flCells hs) ∧ ∀ h ∈ hs, Rd w h.2.1 h.1.data.length (u8s h.1.data)
theorem FlRd.len {w : World} {A : Option Addr} {n : Nat} {fs : List FV} (h : FlRd w A n fs) : fs.length = n := by
  obtain ⟨hs, rfl, h1, _⟩ := h
  have := h1.1
  rw [flCells_len] at this
  simp; omega
theorem FlRd.ext {w w' : World} {A : Option Addr} {n : Nat} {fs : List FV} (h : FlRd w A n fs) (hx : Ext w w') : FlRd w' A n fs := by
  obtain ⟨hs, h0, h1, h2⟩ := h
  exact ⟨hs, h0, h1.ext hx, fun g hg => (h2 g hg).ext hx⟩
theorem fl_at {w : World} {A : Option Addr} {n k : Nat} {fs : List FV} (h : FlRd w A n fs) (hk : k < n) :
    ∃ b o f Af cf, fs[k]? = some f ∧ A = some ⟨b, o, none⟩ ∧ w.rangeAt b (o + k * 3) (flcells f Af cf).toList ∧ Rd w Af f.data.length (u8s f.data) := by
  have hl := h.len
  obtain ⟨hs, rfl, h1, h2⟩ := h
  obtain ⟨b, o, e, hc⟩ := h1.2 (by omega)
  simp at hl
  have hg : hs[k]? = some hs[k] := List.getElem?_eq_getElem (by omega)
  refine ⟨b, o, hs[k].1, hs[k].2.1, hs[k].2.2, by simp [hg], e, fun j v hv => ?_, h2 _ (List.getElem_mem _)⟩
  have hj : j < 3 := by
    have := (List.getElem?_eq_some_iff.1 hv).1
    simpa [flcells] using this
  rw [Nat.add_assoc]
  exact hc _ _ (by rw [flCells_at hs k j _ hg hj]; exact hv)
/-- Files of the call's own: the row, and the bytes of each. -/
def OwnFl (w : World) (base : Nat) (A : Option Addr) (n c : Nat) (hs : List HV) : Prop :=
  w.ownsRow base 49 3 (.slice A n c) n (flCells hs) ∧ ∀ h ∈ hs, w.ownsRow base 5 1 (.slice h.2.1 h.1.data.length h.2.2) h.1.data.length (u8s h.1.data)
theorem OwnFl.rd {w : World} {base : Nat} {A : Option Addr} {n c : Nat} {hs : List HV} (h : OwnFl w base A n c hs) : FlRd w A n (hs.map (·.1)) :=
  ⟨hs, rfl, RdN.of_own h.1, fun g hg => rd_own (h.2 g hg)⟩
theorem OwnFl.ext {w w' : World} {base : Nat} {A : Option Addr} {n c : Nat} {hs : List HV} (h : OwnFl w base A n c hs) (hx : Ext w w') : OwnFl w' base A n c hs :=
  ⟨own_ext hx h.1, fun g hg => own_ext hx (h.2 g hg)⟩
theorem OwnFl.len {w : World} {base : Nat} {A : Option Addr} {n c : Nat} {hs : List HV} (h : OwnFl w base A n c hs) : hs.length = n := by
  have := h.1.1
  rw [flCells_len] at this
  omega
theorem OwnFl.nil_ (w : World) (base : Nat) : OwnFl w base none 0 0 [] := ⟨World.ownsRow_nil _ _ _ _, fun h hh => by cases hh⟩
theorem own_ne2 {w : World} {base base2 : Nat} {e e2 : TypeId} {s s2 : Nat} {v v2 : Value} {n n2 : Nat} {xs ys : List Value} (h : w.ownsRow base e s v n xs) (h2 : w.ownsRow base2 e2 s2 v2 n2 ys) (he : e ≠ e2) : v.ownBlock = none ∨ v.ownBlock ≠ v2.ownBlock :=
  own_ne (own_base h (Nat.min_le_left base base2)) (own_base h2 (Nat.min_le_right base base2)) he
section
variable {w : World}
theorem run_appendF (ty : TypeId) (W : World) {A0 : Option Addr} {n0 c0 : Nat} {l : List HV} (hown : w.ownsRow W.heap.size 49 3 (.slice A0 n0 c0) n0 (flCells l)) (hW : Ext W w)
    {A : Option Addr} {m c : Nat} {news : List HV} (hr : RdN w 3 A m (flCells news)) (hb : (l.length + news.length) * 48 ≤ 140737488355328) :
    ∃ A' n' c' w', (Builtin.append_ #[26, 26] ty #[.slice A0 n0 c0, .slice A m c]).run Try.prog w = .ok (.slice A' n' c') w' ∧ Ext W w' ∧ Hid (n' = l.length + news.length) ∧ w'.ownsRow W.heap.size 49 3 (.slice A' n' c') n' (flCells (l ++ news)) ∧
      (∀ base v n xs, w.ownsRow base 5 1 v n xs → w'.ownsRow base 5 1 v n xs) ∧ w.grownBy w' (Value.slice A0 n0 c0).ownBlock := by
  have e1 : n0 = l.length := by have := hown.1; rw [flCells_len] at this; omega
  have e2 : news.length = m := by have := hr.1; rw [flCells_len] at this; omega
  obtain ⟨v', w', hrun, hown', hg, _⟩ := run_append_rd (P := Try.prog) W.heap.size 26 ty 49 _ 3 48 Try.underlying26 el_fil _ n0 _ hown A m c _ hr (flCells_one _) (by simp only [maxLen]; omega) (by rw [e1, ← e2]; exact hb) hW.size
  obtain ⟨A', c', rfl⟩ := own_slice hown'
  refine ⟨A', _, c', w', hrun, Ext.grown hW hg fun g hg' => own_lt hown g hg', Lib.hid (by omega), ?_, fun base v n xs hv => hv.kept hg (own_ne2 hv hown (by decide)), hg⟩
  rw [flCells_app]
  exact hown'
theorem wpV_append {ops : Array Oper} {rest : List Oper} {o : Oper} {a : Act} {Q : Exit → Act → World → Prop} (hgd : o.guard = none) (s x : Operand)
    (ho : o.op = .call { callee := .builtin .append, args := #[s, x], argTypes := #[26, 26] }) (W : World)
    {A0 : Option Addr} {n0 c0 : Nat} {l : List HV} (hs : a.eval s = .slice A0 n0 c0) (hown : w.ownsRow W.heap.size 49 3 (.slice A0 n0 c0) n0 (flCells l)) (hW : Ext W w)
    {A : Option Addr} {m c : Nat} {news : List HV} (hx : a.eval x = .slice A m c) (hr : RdN w 3 A m (flCells news)) (hb : (l.length + news.length) * 48 ≤ 140737488355328)
    (h : ∀ A' n' c' w', Ext W w' → Hid (n' = l.length + news.length) → w'.ownsRow W.heap.size 49 3 (.slice A' n' c') n' (flCells (l ++ news)) →
      (∀ base v n xs, w.ownsRow base 5 1 v n xs → w'.ownsRow base 5 1 v n xs) → w.grownBy w' (Value.slice A0 n0 c0).ownBlock →
      wpList Try.prog ops Q rest (a.put o.dst (.slice A' n' c')) w') : wpList Try.prog ops Q (o :: rest) a w := by
  obtain ⟨A', n', c', w', hrun, h1, h2, h3, h4, h5⟩ := run_appendF o.type W hown hW hr hb (c := c)
  refine wpList_plain hgd fun K hK => ?_
  unfold Oper.wp execOp
  simp only [ho, resolve, invoke, builtin, Sem.run_bind, Sem.run_pure, Result.andThen_ok, List.map_toArray, List.map_cons, List.map_nil, hs, hx, hrun]
  exact hK _ _ (h A' n' c' w' h1 h2 h3 h4 h5)
theorem step_appendF {ops : Array Oper} {o : Oper} {a : Act} {K : Act → World → Prop} {Q : Exit → Act → World → Prop} {E : Prop} (hgd : o.guard = none) (d : Option Tmp) (hd : o.dst = d) (s x : Operand)
    (ho : o.op = .call { callee := .builtin .append, args := #[s, x], argTypes := #[26, 26] }) (W : World)
    {A0 : Option Addr} {n0 c0 : Nat} {l : List HV} (hs : a.eval s = .slice A0 n0 c0) (hown : w.ownsRow W.heap.size 49 3 (.slice A0 n0 c0) n0 (flCells l)) (hW : Ext W w)
    {A : Option Addr} {m c : Nat} {news : List HV} (hx : a.eval x = .slice A m c) (hr : RdN w 3 A m (flCells news)) (hb : (l.length + news.length) * 48 ≤ 140737488355328)
    (hK : ∀ A' n' c' w', Ext W w' → Hid (n' = l.length + news.length) → w'.ownsRow W.heap.size 49 3 (.slice A' n' c') n' (flCells (l ++ news)) →
      (∀ base v n xs, w.ownsRow base 5 1 v n xs → w'.ownsRow base 5 1 v n xs) → w.grownBy w' (Value.slice A0 n0 c0).ownBlock → K (a.put d (.slice A' n' c')) w') :
    if Region.wanted o (yielded ops a.tmps) = true then Oper.wp Try.prog o a w K Q else E := by
  subst hd
  have hw : Region.wanted o (yielded ops a.tmps) = true := by simp [Region.wanted, hgd]
  rw [if_pos hw]
  obtain ⟨A', n', c', w', hrun, h1, h2, h3, h4, h5⟩ := run_appendF o.type W hown hW hr hb (c := c)
  unfold Oper.wp execOp
  simp only [ho, resolve, invoke, builtin, Sem.run_bind, Sem.run_pure, Result.andThen_ok, List.map_toArray, List.map_cons, List.map_nil, hs, hx, hrun]
  exact hK A' n' c' w' h1 h2 h3 h4 h5
end
theorem rdV_new (w : World) (g : Nat) (f : FV) (A : Option Addr) (c : Nat) (hg : w.heap.size = g) : RdN (w.alloc (.cells #[.string f.name, .slice A f.data.length c, .int .i64 f.safe] 49)) 3 (some ⟨g, 0, none⟩) 1 (flCells [(f, A, c)]) := by
  subst hg
  have h := rd_new w #[.string f.name, .slice A f.data.length c, .int .i64 f.safe] 49
  exact ⟨rfl, fun _ => h.2 (by simp)⟩
def Fil.fv (f : Fil) : FV := ⟨f.name, f.data, (f.safe : Nat)⟩
theorem sortF_get {W w : World} {g b : Nat} {d : Dk} {D : DataW Value} {hs : List HF} (h : FsX W w g d b D hs) {k : Nat} (hk : k < d.files.length) : ∃ l1 l2 fn fd fs p A c0, hs = l1 ++ (⟨fn, fd, fs⟩, p, A, c0) :: l2 ∧ (sortF d.files)[k]? = some ⟨fn, fd, fs⟩ := by
  obtain ⟨f, hf⟩ : ∃ f, (sortF d.files)[k]? = some f := ⟨_, List.getElem?_eq_getElem (by rw [sortF_len]; exact hk)⟩
  have hm : f ∈ d.files := (sortF_perm _).mem_iff.1 (List.mem_of_getElem? hf)
  rw [← h.hsd] at hm
  obtain ⟨⟨⟨fn, fd, fs⟩, p, A, c0⟩, hf2, rfl⟩ := List.mem_map.1 hm
  obtain ⟨l1, l2, rfl⟩ := List.append_of_mem hf2
  exact ⟨l1, l2, fn, fd, fs, p, A, c0, rfl, hf⟩
/-- What Image answers. -/
def GaveF (w : World) (l : List FV) (e : Ending) (w' : World) : Prop :=
  ∃ A c hs, e = .returned (.slice A l.length c) ∧ hs.map (·.1) = l ∧ Ext w w' ∧ OwnFl w' w.heap.size A l.length c hs
end Go.Proofs.Ytdoaniimfhpjhaa
