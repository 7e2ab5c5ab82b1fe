/-
  Slices of states in memory: read, of the call's own, appended to. (Written by wip/tools/gen_rows.py.)
-/
/-
  Slices of placed frames in memory: read, of the call's own, appended to. (Written by wip/tools/gen_rows.py.)
-/
/-
  Slices of frames in memory: read, of the call's own, appended to. (Written by wip/tools/gen_rows.py.)
-/
import Derived.Test.YtjajbbgebblalaaGreatDoorOrdW
import Derived.Test.YtjajbbgebblalaaGreatDoorVarP
import Derived.Test.YtjajbbgebblalaaGreatDoorOwn
import Derived.Test.YtjajbbgebblalaaGreatDoorBytesW
import Derived.Test.YtjajbbgebblalaaGreatDoorFsW
import Derived.Deep.MidRow
import Derived.Test.YtjajbbgebblalaaGreatDoorCrcP
namespace Go.Proofs.YtjajbbgebblalaaGreatDoor
open Go.RowKit
set_option linter.unusedVariables false
set_option linter.unusedSimpArgs false
abbrev HSt := St × Option Addr × Nat
def sscells (v : St) (A : Option Addr) (c : Nat) : Array Value := stcells v A c
def ssCells (hs : List HSt) : List Value := hs.flatMap fun h => (sscells h.1 h.2.1 h.2.2).toList
theorem ss_wide : Wide Tryz.prog 77 12 := ⟨⟨_, Tryz.underlying77, rfl⟩, by kernel_rfl⟩
theorem el_ss : Elem Tryz.prog 77 (.agg (sscells zeroSt none 0)) 12 120 := ⟨by kernel_rfl, rfl, by decide⟩
theorem sscells_size (v : St) (A : Option Addr) (c : Nat) : (sscells v A c).size = 12 := rfl
theorem sscells_one (v : St) (A : Option Addr) (c : Nat) : ∀ u ∈ (sscells v A c).toList, u.oneCell' = true := fun u hu => by
  simp only [sscells, stcells, List.mem_cons, List.not_mem_nil, or_false] at hu
  rcases hu with rfl | rfl | rfl | rfl | rfl | rfl | rfl | rfl | rfl | rfl | rfl | rfl <;> rfl
theorem ssCells_one (hs : List HSt) : ∀ u ∈ ssCells hs, u.oneCell' = true := fun u hu => by
  simp only [ssCells, List.mem_flatMap] at hu
  obtain ⟨h, _, hu⟩ := hu
  exact sscells_one _ _ _ u hu
theorem ssCells_len (hs : List HSt) : (ssCells hs).length = hs.length * 12 := by
  induction hs with
  | nil => rfl
  | cons h r ih =>
    have e : ssCells (h :: r) = (sscells h.1 h.2.1 h.2.2).toList ++ ssCells r := by simp [ssCells]
    rw [e, List.length_append, ih, Array.length_toList, sscells_size, List.length_cons]; omega
theorem ssCells_app (hs gs : List HSt) : ssCells (hs ++ gs) = ssCells hs ++ ssCells gs := by simp [ssCells]
theorem ssCells_at (hs : List HSt) (k j : Nat) (h : HSt) (hk : hs[k]? = some h) (hj : j < 12) : (ssCells hs)[k * 12 + j]? = (sscells h.1 h.2.1 h.2.2).toList[j]? := by
  induction hs generalizing k with
  | nil => simp at hk
  | cons g r ih =>
    have e : ssCells (g :: r) = (sscells g.1 g.2.1 g.2.2).toList ++ ssCells r := by simp [ssCells]
    have hz : (sscells g.1 g.2.1 g.2.2).toList.length = 12 := by rw [Array.length_toList, sscells_size]
    rw [e]
    cases k with
    | zero =>
      simp at hk
      subst hk
      rw [List.getElem?_append_left (by rw [hz]; omega)]
      simp
    | succ k =>
      rw [List.getElem?_append_right (by rw [hz]; omega)]
      have : (k + 1) * 12 + j - (sscells g.1 g.2.1 g.2.2).toList.length = k * 12 + j := by rw [hz]; omega
      rw [this]
      exact ih k (by simpa using hk)
theorem ss_range {w : World} {A : Option Addr} {n k : Nat} {hs : List HSt} (h : RdN w 12 A n (ssCells hs)) (hk : k < n) : ∃ b o x, hs[k]? = some x ∧ A = some ⟨b, o, none⟩ ∧ w.rangeAt b (o + k * 12) (sscells x.1 x.2.1 x.2.2).toList := by
  have hl := h.1
  rw [ssCells_len] at hl
  obtain ⟨b, o, e, hc⟩ := h.2 (by omega)
  have hg : hs[k]? = some hs[k] := List.getElem?_eq_getElem (by omega)
  refine ⟨b, o, hs[k], hg, e, fun j v hv => ?_⟩
  have hj : j < 12 := by
    have := (List.getElem?_eq_some_iff.1 hv).1
    rwa [Array.length_toList, sscells_size] at this
  rw [Nat.add_assoc]
  exact hc _ _ (by rw [ssCells_at hs k j _ hg hj]; exact hv)
/-- A slice that reads as these. -/
def SsRd (w : World) (A : Option Addr) (n : Nat) (xs : List (St)) : Prop :=
  ∃ hs : List HSt, hs.map (·.1) = xs ∧ RdN w 12 A n (ssCells hs) ∧ ∀ h ∈ hs, LsRd w h.2.1 h.1.lines
theorem SsRd.len {w : World} {A : Option Addr} {n : Nat} {xs : List (St)} (h : SsRd w A n xs) : xs.length = n := by
  obtain ⟨hs, rfl, h1, _⟩ := h
  have := h1.1
  rw [ssCells_len] at this
  simp; omega
theorem SsRd.ext {w w' : World} {A : Option Addr} {n : Nat} {xs : List (St)} (h : SsRd w A n xs) (hx : Ext w w') : SsRd w' A n xs := by
  obtain ⟨hs, h0, h1, h2⟩ := h
  exact ⟨hs, h0, h1.ext hx, fun g hg => (h2 g hg).ext hx⟩
theorem ss_at {w : World} {A : Option Addr} {n k : Nat} {xs : List (St)} (h : SsRd w A n xs) (hk : k < n) :
    ∃ b o x A2 c2, xs[k]? = some x ∧ A = some ⟨b, o, none⟩ ∧ w.rangeAt b (o + k * 12) (sscells x A2 c2).toList ∧ (let h : HSt := (x, A2, c2); LsRd w h.2.1 h.1.lines) := by
  obtain ⟨hs, rfl, h1, h2⟩ := h
  obtain ⟨b, o, x, hx, e, hc⟩ := ss_range h1 hk
  exact ⟨b, o, x.1, x.2.1, x.2.2, by simp [hx], e, hc, h2 x (List.mem_of_getElem? hx)⟩
/-- Of the call's own: the row, and the slice of each. -/
def OwnSs (w : World) (base : Nat) (A : Option Addr) (n c : Nat) (hs : List HSt) : Prop :=
  w.ownsRow base 77 12 (.slice A n c) n (ssCells hs) ∧ ∀ h ∈ hs, OwnLs w base h.2.1 h.1.lines h.2.2
theorem OwnSs.rd {w : World} {base : Nat} {A : Option Addr} {n c : Nat} {hs : List HSt} (h : OwnSs w base A n c hs) : SsRd w A n (hs.map (·.1)) :=
  ⟨hs, rfl, RdN.of_own h.1, fun g hg => OwnLs.rd (h.2 g hg)⟩
theorem OwnSs.ext {w w' : World} {base : Nat} {A : Option Addr} {n c : Nat} {hs : List HSt} (h : OwnSs w base A n c hs) (hx : Ext w w') : OwnSs w' base A n c hs :=
  ⟨own_ext hx h.1, fun g hg => own_ext hx (h.2 g hg)⟩
theorem OwnSs.low {w : World} {B B' n c : Nat} {A : Option Addr} {hs : List HSt} (h : OwnSs w B A n c hs) (hb : B' ≤ B) : OwnSs w B' A n c hs :=
  ⟨own_base h.1 hb, fun g hg => own_base (h.2 g hg) hb⟩
theorem OwnSs.len {w : World} {base : Nat} {A : Option Addr} {n c : Nat} {hs : List HSt} (h : OwnSs w base A n c hs) : hs.length = n := by
  have := h.1.1
  rw [ssCells_len] at this
  omega
theorem OwnSs.nil_ (w : World) (base : Nat) : OwnSs w base none 0 0 [] := ⟨World.ownsRow_nil _ _ _ _, fun h hh => by cases hh⟩
theorem own_empty_ss (w : World) (base g : Nat) (hg : w.heap.size = g) (hb : base ≤ g) : OwnSs (w.alloc (.cells #[] 77)) base (some ⟨g, 0, none⟩) 0 0 [] := by
  subst hg
  exact ⟨own_new w base #[] _ 0 hb (by decide) rfl, fun h hh => by cases hh⟩
section
variable {w : World}
theorem run_append_ss (ty : TypeId) (W : World) {A0 : Option Addr} {n0 c0 : Nat} {l : List HSt} (hown : w.ownsRow W.heap.size 77 12 (.slice A0 n0 c0) n0 (ssCells l)) (hW : Ext W w)
    {A : Option Addr} {m c : Nat} {news : List HSt} (hr : RdN w 12 A m (ssCells news)) (hb : (l.length + news.length) * 120 ≤ 140737488355328) :
    ∃ A' n' c' w', (Builtin.append_ #[61, 61] ty #[.slice A0 n0 c0, .slice A m c]).run Tryz.prog w = .ok (.slice A' n' c') w' ∧ Ext W w' ∧ Hid (n' = l.length + news.length) ∧ w'.ownsRow W.heap.size 77 12 (.slice A' n' c') n' (ssCells (l ++ news)) ∧
      (∀ base v n xs, w.ownsRow base 79 4 v n xs → w'.ownsRow base 79 4 v n xs) ∧ w.grownBy w' (Value.slice A0 n0 c0).ownBlock := by
  have e1 : n0 = l.length := by have := hown.1; rw [ssCells_len] at this; omega
  have e2 : news.length = m := by have := hr.1; rw [ssCells_len] at this; omega
  obtain ⟨v', w', hrun, hown', hg, _⟩ := run_append_rd (P := Tryz.prog) W.heap.size 61 ty 77 _ 12 120 Tryz.underlying61 el_ss _ n0 _ hown A m c _ hr (ssCells_one _) (by simp only [maxLen]; omega) (by rw [e1, ← e2]; exact hb) hW.size
  obtain ⟨A', c', rfl⟩ := own_slice hown'
  refine ⟨A', _, c', w', hrun, Ext.grown hW hg fun g hg' => own_lt hown g hg', Lib.hid (by omega), ?_, fun base v n xs hv => hv.kept hg (own_ne2 hv hown (by decide)), hg⟩
  rw [ssCells_app]
  exact hown'
theorem wp_append_ss {ops : Array Oper} {rest : List Oper} {o : Oper} {a : Act} {Q : Exit → Act → World → Prop} (hgd : o.guard = none) (s x : Operand)
    (ho : o.op = .call { callee := .builtin .append, args := #[s, x], argTypes := #[61, 61] }) (W : World)
    {A0 : Option Addr} {n0 c0 : Nat} {l : List HSt} (hs : a.eval s = .slice A0 n0 c0) (hown : w.ownsRow W.heap.size 77 12 (.slice A0 n0 c0) n0 (ssCells l)) (hW : Ext W w)
    {A : Option Addr} {m c : Nat} {news : List HSt} (hx : a.eval x = .slice A m c) (hr : RdN w 12 A m (ssCells news)) (hb : (l.length + news.length) * 120 ≤ 140737488355328)
    (h : ∀ A' n' c' w', Ext W w' → Hid (n' = l.length + news.length) → w'.ownsRow W.heap.size 77 12 (.slice A' n' c') n' (ssCells (l ++ news)) →
      (∀ base v n xs, w.ownsRow base 79 4 v n xs → w'.ownsRow base 79 4 v n xs) → w.grownBy w' (Value.slice A0 n0 c0).ownBlock →
      wpList Tryz.prog ops Q rest (a.put o.dst (.slice A' n' c')) w') : wpList Tryz.prog ops Q (o :: rest) a w := by
  obtain ⟨A', n', c', w', hrun, h1, h2, h3, h4, h5⟩ := run_append_ss o.type W hown hW hr hb (c := c)
  refine wpList_plain hgd fun K hK => ?_
  unfold Oper.wp execOp
  simp only [ho, resolve, invoke, builtin, Sem.run_bind, Sem.run_pure, Result.andThen_ok, List.map_toArray, List.map_cons, List.map_nil, hs, hx, hrun]
  exact hK _ _ (h A' n' c' w' h1 h2 h3 h4 h5)
theorem wp_load_ss {ops : Array Oper} {rest : List Oper} {op : Oper} {a : Act} {Q : Exit → Act → World → Prop} (hgd : op.guard = none) (x : Operand) (ho : op.op = .load 77 x)
    (b o : Nat) (hx : a.eval x = .pointer (some ⟨b, o, none⟩)) (cs : Array Value) (hs : cs.size = 12) (hc : w.rangeAt b o cs.toList)
    (hK : wpList Tryz.prog ops Q rest (a.put op.dst (.agg cs)) w) : wpList Tryz.prog ops Q (op :: rest) a w := by
  obtain ⟨⟨d, hu, hd⟩, hi⟩ := ss_wide
  exact wpList_load_mid hgd 77 x ho b o hx cs.toList d hc hu (by revert hd; cases d <;> simp [TypeDesc.isRow]) (by rw [Array.length_toList, hs]; exact hi) hK
theorem yields_ss {ops : Array Oper} {S : World → Prop} {op : Oper} {a : Act} (hwt : Region.wanted op (yielded ops a.tmps) = true) (x : Operand) (ho : op.op = .load 77 x)
    (b o : Nat) (hx : a.eval x = .pointer (some ⟨b, o, none⟩)) (cs : Array Value) (hs : cs.size = 12) (hS : ∀ w, S w → w.rangeAt b o cs.toList) : YieldsIf Tryz.prog ops S op (.agg cs) a := by
  obtain ⟨⟨d, hu, hd⟩, hi⟩ := ss_wide
  exact yieldsIf_load_mid hwt 77 x ho b o hx cs.toList d hS hu (by revert hd; cases d <;> simp [TypeDesc.isRow]) (by rw [Array.length_toList, hs]; exact hi)
end
theorem ss_new (w : World) (g : Nat) (v : St) (A : Option Addr) (c : Nat) (hg : w.heap.size = g) : RdN (w.alloc (.cells (sscells v A c) 77)) 12 (some ⟨g, 0, none⟩) 1 (ssCells [(v, A, c)]) := by
  subst hg
  have h := rd_new w (sscells v A c) 77
  have e : ssCells [(v, A, c)] = (sscells v A c).toList := by simp [ssCells]
  rw [e]
  exact ⟨by rw [Array.length_toList, sscells_size], fun _ => h.2 (by rw [sscells_size]; omega)⟩
theorem rd_ss {w : World} {B n c : Nat} {A : Option Addr} {hs : List HSt} {L : List (St)} (h : OwnSs w B A n c hs) (hm : hs.map (·.1) = L) : SsRd w A n L := hm ▸ h.rd
end Go.Proofs.YtjajbbgebblalaaGreatDoor

namespace Go.Proofs.YtjajbbgebblalaaGreatDoor
open Go.RowKit
set_option linter.unusedVariables false
set_option linter.unusedSimpArgs false
abbrev HPl := (Nat × Nat × Frm) × Option Addr × Nat
def plcells (v : (Nat × Nat × Frm)) (A : Option Addr) (c : Nat) : Array Value := #[.int .i64 (v.1 : Nat), .int .i64 (v.2.1 : Nat), .int .i64 (v.2.2.1 : Nat), .int .i64 (v.2.2.2.1 : Nat), .slice A v.2.2.2.2.length c]
def plCells (hs : List HPl) : List Value := hs.flatMap fun h => (plcells h.1 h.2.1 h.2.2).toList
theorem pl_wide : Wide Tryz.prog 152 5 := ⟨⟨_, Tryz.underlying152, rfl⟩, by kernel_rfl⟩
theorem el_pl : Elem Tryz.prog 152 (.agg (plcells (0, 0, 0, 0, []) none 0)) 5 56 := ⟨by kernel_rfl, rfl, by decide⟩
theorem alloc_pl (w : World) : (Instr.alloc 152 true (.tuple #[])).run Tryz.prog w = .ok (.pointer (some ⟨w.heap.size, 0, none⟩)) (w.alloc (.cells (plcells (0, 0, 0, 0, []) none 0) 152)) := by kernel_rfl
theorem plcells_size (v : (Nat × Nat × Frm)) (A : Option Addr) (c : Nat) : (plcells v A c).size = 5 := rfl
theorem plcells_one (v : (Nat × Nat × Frm)) (A : Option Addr) (c : Nat) : ∀ u ∈ (plcells v A c).toList, u.oneCell' = true := fun u hu => by
  simp only [plcells, List.mem_cons, List.not_mem_nil, or_false] at hu
  rcases hu with rfl | rfl | rfl | rfl | rfl <;> rfl
theorem plCells_one (hs : List HPl) : ∀ u ∈ plCells hs, u.oneCell' = true := fun u hu => by
  simp only [plCells, List.mem_flatMap] at hu
  obtain ⟨h, _, hu⟩ := hu
  exact plcells_one _ _ _ u hu
theorem plCells_len (hs : List HPl) : (plCells hs).length = hs.length * 5 := by
  induction hs with
  | nil => rfl
  | cons h r ih =>
    have e : plCells (h :: r) = (plcells h.1 h.2.1 h.2.2).toList ++ plCells r := by simp [plCells]
    rw [e, List.length_append, ih, Array.length_toList, plcells_size, List.length_cons]; omega
theorem plCells_app (hs gs : List HPl) : plCells (hs ++ gs) = plCells hs ++ plCells gs := by simp [plCells]
theorem plCells_at (hs : List HPl) (k j : Nat) (h : HPl) (hk : hs[k]? = some h) (hj : j < 5) : (plCells hs)[k * 5 + j]? = (plcells h.1 h.2.1 h.2.2).toList[j]? := by
  induction hs generalizing k with
  | nil => simp at hk
  | cons g r ih =>
    have e : plCells (g :: r) = (plcells g.1 g.2.1 g.2.2).toList ++ plCells r := by simp [plCells]
    have hz : (plcells g.1 g.2.1 g.2.2).toList.length = 5 := by rw [Array.length_toList, plcells_size]
    rw [e]
    cases k with
    | zero =>
      simp at hk
      subst hk
      rw [List.getElem?_append_left (by rw [hz]; omega)]
      simp
    | succ k =>
      rw [List.getElem?_append_right (by rw [hz]; omega)]
      have : (k + 1) * 5 + j - (plcells g.1 g.2.1 g.2.2).toList.length = k * 5 + j := by rw [hz]; omega
      rw [this]
      exact ih k (by simpa using hk)
theorem pl_range {w : World} {A : Option Addr} {n k : Nat} {hs : List HPl} (h : RdN w 5 A n (plCells hs)) (hk : k < n) : ∃ b o x, hs[k]? = some x ∧ A = some ⟨b, o, none⟩ ∧ w.rangeAt b (o + k * 5) (plcells x.1 x.2.1 x.2.2).toList := by
  have hl := h.1
  rw [plCells_len] at hl
  obtain ⟨b, o, e, hc⟩ := h.2 (by omega)
  have hg : hs[k]? = some hs[k] := List.getElem?_eq_getElem (by omega)
  refine ⟨b, o, hs[k], hg, e, fun j v hv => ?_⟩
  have hj : j < 5 := by
    have := (List.getElem?_eq_some_iff.1 hv).1
    rwa [Array.length_toList, plcells_size] at this
  rw [Nat.add_assoc]
  exact hc _ _ (by rw [plCells_at hs k j _ hg hj]; exact hv)
/-- A slice that reads as these. -/
def PlRd (w : World) (A : Option Addr) (n : Nat) (xs : List ((Nat × Nat × Frm))) : Prop :=
  ∃ hs : List HPl, hs.map (·.1) = xs ∧ RdN w 5 A n (plCells hs) ∧ ∀ h ∈ hs, Rd w h.2.1 h.1.2.2.2.2.length (u8s h.1.2.2.2.2)
theorem PlRd.len {w : World} {A : Option Addr} {n : Nat} {xs : List ((Nat × Nat × Frm))} (h : PlRd w A n xs) : xs.length = n := by
  obtain ⟨hs, rfl, h1, _⟩ := h
  have := h1.1
  rw [plCells_len] at this
  simp; omega
theorem PlRd.ext {w w' : World} {A : Option Addr} {n : Nat} {xs : List ((Nat × Nat × Frm))} (h : PlRd w A n xs) (hx : Ext w w') : PlRd w' A n xs := by
  obtain ⟨hs, h0, h1, h2⟩ := h
  exact ⟨hs, h0, h1.ext hx, fun g hg => (h2 g hg).ext hx⟩
/-- Of the call's own: the row, and the slice of each. -/
def OwnPl (w : World) (base : Nat) (A : Option Addr) (n c : Nat) (hs : List HPl) : Prop :=
  w.ownsRow base 152 5 (.slice A n c) n (plCells hs) ∧ ∀ h ∈ hs, w.ownsRow base 5 1 (.slice h.2.1 h.1.2.2.2.2.length h.2.2) h.1.2.2.2.2.length (u8s h.1.2.2.2.2)
theorem OwnPl.rd {w : World} {base : Nat} {A : Option Addr} {n c : Nat} {hs : List HPl} (h : OwnPl w base A n c hs) : PlRd w A n (hs.map (·.1)) :=
  ⟨hs, rfl, RdN.of_own h.1, fun g hg => rd_own (h.2 g hg)⟩
theorem OwnPl.ext {w w' : World} {base : Nat} {A : Option Addr} {n c : Nat} {hs : List HPl} (h : OwnPl w base A n c hs) (hx : Ext w w') : OwnPl w' base A n c hs :=
  ⟨own_ext hx h.1, fun g hg => own_ext hx (h.2 g hg)⟩
theorem OwnPl.low {w : World} {B B' n c : Nat} {A : Option Addr} {hs : List HPl} (h : OwnPl w B A n c hs) (hb : B' ≤ B) : OwnPl w B' A n c hs :=
  ⟨own_base h.1 hb, fun g hg => own_base (h.2 g hg) hb⟩
theorem OwnPl.len {w : World} {base : Nat} {A : Option Addr} {n c : Nat} {hs : List HPl} (h : OwnPl w base A n c hs) : hs.length = n := by
  have := h.1.1
  rw [plCells_len] at this
  omega
theorem OwnPl.nil_ (w : World) (base : Nat) : OwnPl w base none 0 0 [] := ⟨World.ownsRow_nil _ _ _ _, fun h hh => by cases hh⟩
theorem own_empty_pl (w : World) (base g : Nat) (hg : w.heap.size = g) (hb : base ≤ g) : OwnPl (w.alloc (.cells #[] 152)) base (some ⟨g, 0, none⟩) 0 0 [] := by
  subst hg
  exact ⟨own_new w base #[] _ 0 hb (by decide) rfl, fun h hh => by cases hh⟩
section
variable {w : World}
theorem run_append_pl (ty : TypeId) (W : World) {A0 : Option Addr} {n0 c0 : Nat} {l : List HPl} (hown : w.ownsRow W.heap.size 152 5 (.slice A0 n0 c0) n0 (plCells l)) (hW : Ext W w)
    {A : Option Addr} {m c : Nat} {news : List HPl} (hr : RdN w 5 A m (plCells news)) (hb : (l.length + news.length) * 56 ≤ 140737488355328) :
    ∃ A' n' c' w', (Builtin.append_ #[148, 148] ty #[.slice A0 n0 c0, .slice A m c]).run Tryz.prog w = .ok (.slice A' n' c') w' ∧ Ext W w' ∧ Hid (n' = l.length + news.length) ∧ w'.ownsRow W.heap.size 152 5 (.slice A' n' c') n' (plCells (l ++ news)) ∧
      (∀ base v n xs, w.ownsRow base 5 1 v n xs → w'.ownsRow base 5 1 v n xs) ∧ w.grownBy w' (Value.slice A0 n0 c0).ownBlock := by
  have e1 : n0 = l.length := by have := hown.1; rw [plCells_len] at this; omega
  have e2 : news.length = m := by have := hr.1; rw [plCells_len] at this; omega
  obtain ⟨v', w', hrun, hown', hg, _⟩ := run_append_rd (P := Tryz.prog) W.heap.size 148 ty 152 _ 5 56 Tryz.underlying148 el_pl _ n0 _ hown A m c _ hr (plCells_one _) (by simp only [maxLen]; omega) (by rw [e1, ← e2]; exact hb) hW.size
  obtain ⟨A', c', rfl⟩ := own_slice hown'
  refine ⟨A', _, c', w', hrun, Ext.grown hW hg fun g hg' => own_lt hown g hg', Lib.hid (by omega), ?_, fun base v n xs hv => hv.kept hg (own_ne2 hv hown (by decide)), hg⟩
  rw [plCells_app]
  exact hown'
theorem wp_append_pl {ops : Array Oper} {rest : List Oper} {o : Oper} {a : Act} {Q : Exit → Act → World → Prop} (hgd : o.guard = none) (s x : Operand)
    (ho : o.op = .call { callee := .builtin .append, args := #[s, x], argTypes := #[148, 148] }) (W : World)
    {A0 : Option Addr} {n0 c0 : Nat} {l : List HPl} (hs : a.eval s = .slice A0 n0 c0) (hown : w.ownsRow W.heap.size 152 5 (.slice A0 n0 c0) n0 (plCells l)) (hW : Ext W w)
    {A : Option Addr} {m c : Nat} {news : List HPl} (hx : a.eval x = .slice A m c) (hr : RdN w 5 A m (plCells news)) (hb : (l.length + news.length) * 56 ≤ 140737488355328)
    (h : ∀ A' n' c' w', Ext W w' → Hid (n' = l.length + news.length) → w'.ownsRow W.heap.size 152 5 (.slice A' n' c') n' (plCells (l ++ news)) →
      (∀ base v n xs, w.ownsRow base 5 1 v n xs → w'.ownsRow base 5 1 v n xs) → w.grownBy w' (Value.slice A0 n0 c0).ownBlock →
      wpList Tryz.prog ops Q rest (a.put o.dst (.slice A' n' c')) w') : wpList Tryz.prog ops Q (o :: rest) a w := by
  obtain ⟨A', n', c', w', hrun, h1, h2, h3, h4, h5⟩ := run_append_pl o.type W hown hW hr hb (c := c)
  refine wpList_plain hgd fun K hK => ?_
  unfold Oper.wp execOp
  simp only [ho, resolve, invoke, builtin, Sem.run_bind, Sem.run_pure, Result.andThen_ok, List.map_toArray, List.map_cons, List.map_nil, hs, hx, hrun]
  exact hK _ _ (h A' n' c' w' h1 h2 h3 h4 h5)
theorem wp_load_pl {ops : Array Oper} {rest : List Oper} {op : Oper} {a : Act} {Q : Exit → Act → World → Prop} (hgd : op.guard = none) (x : Operand) (ho : op.op = .load 152 x)
    (b o : Nat) (hx : a.eval x = .pointer (some ⟨b, o, none⟩)) (cs : Array Value) (hs : cs.size = 5) (hc : w.rangeAt b o cs.toList)
    (hK : wpList Tryz.prog ops Q rest (a.put op.dst (.agg cs)) w) : wpList Tryz.prog ops Q (op :: rest) a w := by
  obtain ⟨⟨d, hu, hd⟩, hi⟩ := pl_wide
  exact wpList_load_mid hgd 152 x ho b o hx cs.toList d hc hu (by revert hd; cases d <;> simp [TypeDesc.isRow]) (by rw [Array.length_toList, hs]; exact hi) hK
end
theorem pl_new (w : World) (g : Nat) (v : (Nat × Nat × Frm)) (A : Option Addr) (c : Nat) (hg : w.heap.size = g) : RdN (w.alloc (.cells (plcells v A c) 152)) 5 (some ⟨g, 0, none⟩) 1 (plCells [(v, A, c)]) := by
  subst hg
  have h := rd_new w (plcells v A c) 152
  have e : plCells [(v, A, c)] = (plcells v A c).toList := by simp [plCells]
  rw [e]
  exact ⟨by rw [Array.length_toList, plcells_size], fun _ => h.2 (by rw [plcells_size]; omega)⟩
end Go.Proofs.YtjajbbgebblalaaGreatDoor

namespace Go.Proofs.YtjajbbgebblalaaGreatDoor
open Go.RowKit
set_option linter.unusedVariables false
set_option linter.unusedSimpArgs false
abbrev HFm := Frm × Option Addr × Nat
def fmcells (v : Frm) (A : Option Addr) (c : Nat) : Array Value := #[.int .i64 (v.1 : Nat), .int .i64 (v.2.1 : Nat), .slice A v.2.2.length c]
def fmCells (hs : List HFm) : List Value := hs.flatMap fun h => (fmcells h.1 h.2.1 h.2.2).toList
theorem fm_wide : Wide Tryz.prog 119 3 := ⟨⟨_, Tryz.underlying119, rfl⟩, by kernel_rfl⟩
theorem el_fm : Elem Tryz.prog 119 (.agg (fmcells (0, 0, []) none 0)) 3 40 := ⟨by kernel_rfl, rfl, by decide⟩
theorem fmcells_size (v : Frm) (A : Option Addr) (c : Nat) : (fmcells v A c).size = 3 := rfl
theorem fmcells_one (v : Frm) (A : Option Addr) (c : Nat) : ∀ u ∈ (fmcells v A c).toList, u.oneCell' = true := fun u hu => by
  simp only [fmcells, List.mem_cons, List.not_mem_nil, or_false] at hu
  rcases hu with rfl | rfl | rfl <;> rfl
theorem fmCells_one (hs : List HFm) : ∀ u ∈ fmCells hs, u.oneCell' = true := fun u hu => by
  simp only [fmCells, List.mem_flatMap] at hu
  obtain ⟨h, _, hu⟩ := hu
  exact fmcells_one _ _ _ u hu
theorem fmCells_len (hs : List HFm) : (fmCells hs).length = hs.length * 3 := by
  induction hs with
  | nil => rfl
  | cons h r ih =>
    have e : fmCells (h :: r) = (fmcells h.1 h.2.1 h.2.2).toList ++ fmCells r := by simp [fmCells]
    rw [e, List.length_append, ih, Array.length_toList, fmcells_size, List.length_cons]; omega
theorem fmCells_app (hs gs : List HFm) : fmCells (hs ++ gs) = fmCells hs ++ fmCells gs := by simp [fmCells]
theorem fmCells_at (hs : List HFm) (k j : Nat) (h : HFm) (hk : hs[k]? = some h) (hj : j < 3) : (fmCells hs)[k * 3 + j]? = (fmcells h.1 h.2.1 h.2.2).toList[j]? := by
  induction hs generalizing k with
  | nil => simp at hk
  | cons g r ih =>
    have e : fmCells (g :: r) = (fmcells g.1 g.2.1 g.2.2).toList ++ fmCells r := by simp [fmCells]
    have hz : (fmcells g.1 g.2.1 g.2.2).toList.length = 3 := by rw [Array.length_toList, fmcells_size]
    rw [e]
    cases k with
    | zero =>
      simp at hk
      subst hk
      rw [List.getElem?_append_left (by rw [hz]; omega)]
      simp
    | succ k =>
      rw [List.getElem?_append_right (by rw [hz]; omega)]
      have : (k + 1) * 3 + j - (fmcells g.1 g.2.1 g.2.2).toList.length = k * 3 + j := by rw [hz]; omega
      rw [this]
      exact ih k (by simpa using hk)
theorem fm_range {w : World} {A : Option Addr} {n k : Nat} {hs : List HFm} (h : RdN w 3 A n (fmCells hs)) (hk : k < n) : ∃ b o x, hs[k]? = some x ∧ A = some ⟨b, o, none⟩ ∧ w.rangeAt b (o + k * 3) (fmcells x.1 x.2.1 x.2.2).toList := by
  have hl := h.1
  rw [fmCells_len] at hl
  obtain ⟨b, o, e, hc⟩ := h.2 (by omega)
  have hg : hs[k]? = some hs[k] := List.getElem?_eq_getElem (by omega)
  refine ⟨b, o, hs[k], hg, e, fun j v hv => ?_⟩
  have hj : j < 3 := by
    have := (List.getElem?_eq_some_iff.1 hv).1
    rwa [Array.length_toList, fmcells_size] at this
  rw [Nat.add_assoc]
  exact hc _ _ (by rw [fmCells_at hs k j _ hg hj]; exact hv)
/-- A slice that reads as these. -/
def FmRd (w : World) (A : Option Addr) (n : Nat) (xs : List (Frm)) : Prop :=
  ∃ hs : List HFm, hs.map (·.1) = xs ∧ RdN w 3 A n (fmCells hs) ∧ ∀ h ∈ hs, Rd w h.2.1 h.1.2.2.length (u8s h.1.2.2)
theorem FmRd.len {w : World} {A : Option Addr} {n : Nat} {xs : List (Frm)} (h : FmRd w A n xs) : xs.length = n := by
  obtain ⟨hs, rfl, h1, _⟩ := h
  have := h1.1
  rw [fmCells_len] at this
  simp; omega
theorem FmRd.ext {w w' : World} {A : Option Addr} {n : Nat} {xs : List (Frm)} (h : FmRd w A n xs) (hx : Ext w w') : FmRd w' A n xs := by
  obtain ⟨hs, h0, h1, h2⟩ := h
  exact ⟨hs, h0, h1.ext hx, fun g hg => (h2 g hg).ext hx⟩
theorem fm_at {w : World} {A : Option Addr} {n k : Nat} {xs : List (Frm)} (h : FmRd w A n xs) (hk : k < n) :
    ∃ b o x A2 c2, xs[k]? = some x ∧ A = some ⟨b, o, none⟩ ∧ w.rangeAt b (o + k * 3) (fmcells x A2 c2).toList ∧ (let h : HFm := (x, A2, c2); Rd w h.2.1 h.1.2.2.length (u8s h.1.2.2)) := by
  obtain ⟨hs, rfl, h1, h2⟩ := h
  obtain ⟨b, o, x, hx, e, hc⟩ := fm_range h1 hk
  exact ⟨b, o, x.1, x.2.1, x.2.2, by simp [hx], e, hc, h2 x (List.mem_of_getElem? hx)⟩
/-- Of the call's own: the row, and the slice of each. -/
def OwnFm (w : World) (base : Nat) (A : Option Addr) (n c : Nat) (hs : List HFm) : Prop :=
  w.ownsRow base 119 3 (.slice A n c) n (fmCells hs) ∧ ∀ h ∈ hs, w.ownsRow base 5 1 (.slice h.2.1 h.1.2.2.length h.2.2) h.1.2.2.length (u8s h.1.2.2)
theorem OwnFm.rd {w : World} {base : Nat} {A : Option Addr} {n c : Nat} {hs : List HFm} (h : OwnFm w base A n c hs) : FmRd w A n (hs.map (·.1)) :=
  ⟨hs, rfl, RdN.of_own h.1, fun g hg => rd_own (h.2 g hg)⟩
theorem OwnFm.ext {w w' : World} {base : Nat} {A : Option Addr} {n c : Nat} {hs : List HFm} (h : OwnFm w base A n c hs) (hx : Ext w w') : OwnFm w' base A n c hs :=
  ⟨own_ext hx h.1, fun g hg => own_ext hx (h.2 g hg)⟩
theorem OwnFm.low {w : World} {B B' n c : Nat} {A : Option Addr} {hs : List HFm} (h : OwnFm w B A n c hs) (hb : B' ≤ B) : OwnFm w B' A n c hs :=
  ⟨own_base h.1 hb, fun g hg => own_base (h.2 g hg) hb⟩
theorem OwnFm.len {w : World} {base : Nat} {A : Option Addr} {n c : Nat} {hs : List HFm} (h : OwnFm w base A n c hs) : hs.length = n := by
  have := h.1.1
  rw [fmCells_len] at this
  omega
theorem OwnFm.nil_ (w : World) (base : Nat) : OwnFm w base none 0 0 [] := ⟨World.ownsRow_nil _ _ _ _, fun h hh => by cases hh⟩
theorem own_one_fm (w : World) (base g : Nat) (hg : w.heap.size = g) (hb : base ≤ g) (v : Frm) (A : Option Addr) (c : Nat) : (w.alloc (.cells (fmcells v A c) 119)).ownsRow base 119 3 (.slice (some ⟨g, 0, none⟩) 1 1) 1 (fmCells [(v, A, c)]) := by
  subst hg
  have e : fmCells [(v, A, c)] = (fmcells v A c).toList := by simp [fmCells]
  rw [e]
  exact own_new w base _ _ 1 hb (by decide) (by rw [fmcells_size])
section
variable {w : World}
theorem run_append_fm (ty : TypeId) (W : World) {A0 : Option Addr} {n0 c0 : Nat} {l : List HFm} (hown : w.ownsRow W.heap.size 119 3 (.slice A0 n0 c0) n0 (fmCells l)) (hW : Ext W w)
    {A : Option Addr} {m c : Nat} {news : List HFm} (hr : RdN w 3 A m (fmCells news)) (hb : (l.length + news.length) * 40 ≤ 140737488355328) :
    ∃ A' n' c' w', (Builtin.append_ #[141, 141] ty #[.slice A0 n0 c0, .slice A m c]).run Tryz.prog w = .ok (.slice A' n' c') w' ∧ Ext W w' ∧ Hid (n' = l.length + news.length) ∧ w'.ownsRow W.heap.size 119 3 (.slice A' n' c') n' (fmCells (l ++ news)) ∧
      (∀ base v n xs, w.ownsRow base 5 1 v n xs → w'.ownsRow base 5 1 v n xs) ∧ w.grownBy w' (Value.slice A0 n0 c0).ownBlock := by
  have e1 : n0 = l.length := by have := hown.1; rw [fmCells_len] at this; omega
  have e2 : news.length = m := by have := hr.1; rw [fmCells_len] at this; omega
  obtain ⟨v', w', hrun, hown', hg, _⟩ := run_append_rd (P := Tryz.prog) W.heap.size 141 ty 119 _ 3 40 Tryz.underlying141 el_fm _ n0 _ hown A m c _ hr (fmCells_one _) (by simp only [maxLen]; omega) (by rw [e1, ← e2]; exact hb) hW.size
  obtain ⟨A', c', rfl⟩ := own_slice hown'
  refine ⟨A', _, c', w', hrun, Ext.grown hW hg fun g hg' => own_lt hown g hg', Lib.hid (by omega), ?_, fun base v n xs hv => hv.kept hg (own_ne2 hv hown (by decide)), hg⟩
  rw [fmCells_app]
  exact hown'
theorem wp_append_fm {ops : Array Oper} {rest : List Oper} {o : Oper} {a : Act} {Q : Exit → Act → World → Prop} (hgd : o.guard = none) (s x : Operand)
    (ho : o.op = .call { callee := .builtin .append, args := #[s, x], argTypes := #[141, 141] }) (W : World)
    {A0 : Option Addr} {n0 c0 : Nat} {l : List HFm} (hs : a.eval s = .slice A0 n0 c0) (hown : w.ownsRow W.heap.size 119 3 (.slice A0 n0 c0) n0 (fmCells l)) (hW : Ext W w)
    {A : Option Addr} {m c : Nat} {news : List HFm} (hx : a.eval x = .slice A m c) (hr : RdN w 3 A m (fmCells news)) (hb : (l.length + news.length) * 40 ≤ 140737488355328)
    (h : ∀ A' n' c' w', Ext W w' → Hid (n' = l.length + news.length) → w'.ownsRow W.heap.size 119 3 (.slice A' n' c') n' (fmCells (l ++ news)) →
      (∀ base v n xs, w.ownsRow base 5 1 v n xs → w'.ownsRow base 5 1 v n xs) → w.grownBy w' (Value.slice A0 n0 c0).ownBlock →
      wpList Tryz.prog ops Q rest (a.put o.dst (.slice A' n' c')) w') : wpList Tryz.prog ops Q (o :: rest) a w := by
  obtain ⟨A', n', c', w', hrun, h1, h2, h3, h4, h5⟩ := run_append_fm o.type W hown hW hr hb (c := c)
  refine wpList_plain hgd fun K hK => ?_
  unfold Oper.wp execOp
  simp only [ho, resolve, invoke, builtin, Sem.run_bind, Sem.run_pure, Result.andThen_ok, List.map_toArray, List.map_cons, List.map_nil, hs, hx, hrun]
  exact hK _ _ (h A' n' c' w' h1 h2 h3 h4 h5)
theorem wp_load_fm {ops : Array Oper} {rest : List Oper} {op : Oper} {a : Act} {Q : Exit → Act → World → Prop} (hgd : op.guard = none) (x : Operand) (ho : op.op = .load 119 x)
    (b o : Nat) (hx : a.eval x = .pointer (some ⟨b, o, none⟩)) (cs : Array Value) (hs : cs.size = 3) (hc : w.rangeAt b o cs.toList)
    (hK : wpList Tryz.prog ops Q rest (a.put op.dst (.agg cs)) w) : wpList Tryz.prog ops Q (op :: rest) a w := by
  obtain ⟨⟨d, hu, hd⟩, hi⟩ := fm_wide
  exact wpList_load_mid hgd 119 x ho b o hx cs.toList d hc hu (by revert hd; cases d <;> simp [TypeDesc.isRow]) (by rw [Array.length_toList, hs]; exact hi) hK
theorem yields_fm {ops : Array Oper} {S : World → Prop} {op : Oper} {a : Act} (hwt : Region.wanted op (yielded ops a.tmps) = true) (x : Operand) (ho : op.op = .load 119 x)
    (b o : Nat) (hx : a.eval x = .pointer (some ⟨b, o, none⟩)) (cs : Array Value) (hs : cs.size = 3) (hS : ∀ w, S w → w.rangeAt b o cs.toList) : YieldsIf Tryz.prog ops S op (.agg cs) a := by
  obtain ⟨⟨d, hu, hd⟩, hi⟩ := fm_wide
  exact yieldsIf_load_mid hwt 119 x ho b o hx cs.toList d hS hu (by revert hd; cases d <;> simp [TypeDesc.isRow]) (by rw [Array.length_toList, hs]; exact hi)
end
theorem fm_new (w : World) (g : Nat) (v : Frm) (A : Option Addr) (c : Nat) (hg : w.heap.size = g) : RdN (w.alloc (.cells (fmcells v A c) 119)) 3 (some ⟨g, 0, none⟩) 1 (fmCells [(v, A, c)]) := by
  subst hg
  have h := rd_new w (fmcells v A c) 119
  have e : fmCells [(v, A, c)] = (fmcells v A c).toList := by simp [fmCells]
  rw [e]
  exact ⟨by rw [Array.length_toList, fmcells_size], fun _ => h.2 (by rw [fmcells_size]; omega)⟩
theorem rd_fm {w : World} {B n c : Nat} {A : Option Addr} {hs : List HFm} {L : List (Frm)} (h : OwnFm w B A n c hs) (hm : hs.map (·.1) = L) : FmRd w A n L := hm ▸ h.rd
end Go.Proofs.YtjajbbgebblalaaGreatDoor
