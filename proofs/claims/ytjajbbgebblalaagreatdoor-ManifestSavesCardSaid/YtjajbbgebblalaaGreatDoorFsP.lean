/-
  A disk in memory; names: the files' names, sorted.
-/
/-
  Files by value (api.File) in memory: lists that read, lists of the call's own; steps of drawn regions for them.
-/
/-
  A disk in memory; List, Image.
-/
import Derived.Test.YtjajbbgebblalaaGreatDoorFsK
import Derived.Test.YtjajbbgebblalaaGreatDoorShelf
import Derived.Maps.RangeWalk
import Derived.Sort.KeysCollected
import Derived.Sort.OwnSorted
import Derived.Deep.MidRow
import Derived.Deep.RegionHeld3
namespace Go.Proofs.YtjajbbgebblalaaGreatDoor
open Go.RowKit
set_option linter.unusedVariables false
set_option linter.unusedSimpArgs false
open Go.Maps
open Go.Sort
def bytesOf (s : ByteArray) : List UInt8 := s.data.toList
theorem bytesOf_inj {a b : ByteArray} (h : bytesOf a = bytesOf b) : a = b := by
  unfold bytesOf at h
  cases a; cases b; congr 1; exact Array.toList_inj.1 h
theorem enc_bytes (s : ByteArray) : encStr (bytesOf s) = .string s := by unfold bytesOf encStr; simp
def leF (a b : Fil) : Bool := leB (bytesOf a.name) (bytesOf b.name)
/-- A disk's files by name. -/
def sortF (l : List Fil) : List Fil := l.mergeSort leF
def nmV (l : List Fil) : List Value := l.map fun f => .string f.name
theorem nmV_len (l : List Fil) : (nmV l).length = l.length := List.length_map _
theorem leB_trans (a b c : List UInt8) (h1 : leB a b = true) (h2 : leB b c = true) : leB a c = true := by simp only [leB, decide_eq_true_eq] at *; exact List.le_trans h1 h2
theorem leB_total (a b : List UInt8) : (leB a b || leB b a) = true := by simp only [leB, Bool.or_eq_true, decide_eq_true_eq]; exact List.le_total a b
theorem sortF_perm (l : List Fil) : (sortF l).Perm l := List.mergeSort_perm _ _
theorem sortF_len (l : List Fil) : (sortF l).length = l.length := (sortF_perm l).length_eq
theorem sortF_pair (l : List Fil) : (sortF l).Pairwise fun a b => leF a b = true :=
  List.pairwise_mergeSort (le := leF) (fun a b c h1 h2 => leB_trans (bytesOf a.name) (bytesOf b.name) (bytesOf c.name) h1 h2) (fun a b => leB_total (bytesOf a.name) (bytesOf b.name)) l
theorem sort_names {l : List Fil} {ss : List (List UInt8)} (h : ss.Perm (l.map fun f => bytesOf f.name)) : (ss.mergeSort leB).map encStr = nmV (sortF l) := by
  rw [mergeSort_of_perm h]
  unfold sortF nmV
  have := List.map_mergeSort (r := leF) (s := leB) (f := fun f : Fil => bytesOf f.name) (l := l) (fun a _ b _ => rfl)
  rw [← this, List.map_map]
  exact List.map_congr_left fun f _ => enc_bytes _
theorem el_str : Elem Tryz.prog 9 (.string ⟨#[]⟩) 1 16 := ⟨by kernel_rfl, rfl, by decide⟩
/-- The library's sort at a slice of strings of the call's own. -/
theorem sort_own (w : World) (base n : Nat) (v : Value) (ss : List (List UInt8)) (hn : ss.length = n) (hl : n ≤ 4096) (h : w.ownsRow base 9 1 v n (ss.map encStr)) :
    Calls Tryz.prog 112 #[v] w fun e w' => e = .returned (.tuple #[]) ∧ w.grownBy w' v.ownBlock ∧ w'.ownsRow base 9 1 v n ((ss.mergeSort leB).map encStr) := by
  subst hn
  rcases h.2 with ⟨rfl, h0⟩ | ⟨g, cap, cur, rfl, hbase, hb, h1, h2, h3, h4⟩
  · obtain rfl : ss = [] := List.eq_nil_of_length_eq_zero h0
    refine (Tryz.slices_Sort_string_none none 0 w).mono ?_
    rintro e w' ⟨rfl, rfl⟩
    exact ⟨rfl, World.grownBy.refl _ _, by simpa using h⟩
  · have hH : Holds encStr w g 0 ss.toArray := holds_of_block hb (by simpa using h4)
    refine (Tryz.slices_Sort_string g 0 cap ss w hH (Array.getElem?_eq_some_iff.1 hb).1 (by omega)).mono ?_
    rintro e w' ⟨rfl, n, os, rfl⟩
    exact ⟨rfl, grownBy_sorted _, ownsRow_sorted (by simp) hbase hb h1 h2 h3⟩
def GaveN (W w : World) (l : List Fil) (e : Ending) (w' : World) : Prop :=
  ∃ A c, e = .returned (.slice A l.length c) ∧ Ext w w' ∧ w'.ownsRow w.heap.size 9 1 (.slice A l.length c) l.length (nmV (sortF l))
set_option maxRecDepth 100000 in
set_option maxHeartbeats 4000000 in
theorem names_any (W w : World) (g b : Nat) (d : Dk) (D : DataW Value) (hs : List HF) (h : FsX W w g d b D hs) :
    Calls Tryz.prog 68 #[ptrV g] w (GaveN W w d.files) := by
  unfold ptrV
  have k0 : w.cell? ⟨g, 0, none⟩ = some (.map (some b)) := h.blk.cell 0
  obtain ⟨n, hn, hown⟩ := h.own
  obtain ⟨i0, hi, hz0, hz1, hz2⟩ := info_parts el_str.1
  go_enter Tryz.func68, Tryz.ntmps68
  go_wp2_with (at_range; refine wpList_range_own _ rfl _ 107 rfl 9 106 key_law Tryz.underlying107 _ b n D rfl hown ?_; intro w0 hrg0 hg0 hs0)
  go_frame
  have hmp := h.map
  have hcnt := h.cnt
  have hbl := hown.lt
  have hsd := h.hsd
  have hsz : Maps.size D = hs.length := by rw [hmp.2.1, List.length_map]
  clear h
  go_loopw [3] (fun v wr => ∃ (left : Lit → Bool) (cnt : Nat) (ss : List (List UInt8)), wr.ranges Tryz.prog 9 tokR b w.heap.size n D left cnt ∧ ss.length + cnt ≤ Maps.size D ∧
      wr.ownsRow w.heap.size 9 1 v ss.length (ss.map encStr) ∧ Collected D left ss ∧ Ext w wr)
    (fun _ wr => wr.rangeLeft b w.heap.size)
  case atStart => exact ⟨_, _, [], hrg0, by simp, World.ownsRow_nil _ _ _ _, Collected.start D, (Below.refl _ _).grown hg0 (Nat.le_refl _) (fun j hj => by cases hj)⟩
  case round =>
    obtain ⟨left, cnt, ss, hrg, hcs, hrow, hC, hnx⟩ := hrel
    go_wp2_with (at_next; refine wpList_next_ranges _ rfl _ rfl 9 key_law tokR encStr (fun v => v) (fun key kl hk => by obtain ⟨x, hx, _⟩ := Maps.keyOf_str Tryz.underlying9 hk; exact ⟨x, hx⟩) (fun v y hv => ⟨v, rfl⟩) b w.heap.size n _ _ _ rfl hrg ?_ ?_)
    · intro hc0 hl0
      have hperm : ss.Perm (d.files.map fun f => bytesOf f.name) := by
        refine (List.perm_ext_iff_of_nodup hC.1 ?_).2 fun x => ?_
        · have h3 := hmp.2.2.1
          rw [← hsd, List.map_map]
          rw [List.map_map] at h3
          exact (List.pairwise_map.2 ((List.pairwise_map.1 h3).imp fun {a c} hne he => hne (bytesOf_inj he)))
        · rw [hC.2 x, hl0]
          have h4 := hmp.2.2.2.1 ⟨x.toArray⟩
          have e1 : nmLit ⟨x.toArray⟩ = .string x := by simp [nmLit]
          rw [e1] at h4
          rw [h4, ← hsd, List.any_eq_true]
          simp only [and_true, List.mem_map, decide_eq_true_eq]
          constructor
          · rintro ⟨y, ⟨f, hf, rfl⟩, he⟩
            exact ⟨f.1, ⟨f, hf, rfl⟩, by dsimp only at he; rw [he]; simp [bytesOf]⟩
          · rintro ⟨f, ⟨k, hk, rfl⟩, he⟩
            exact ⟨_, ⟨k, hk, rfl⟩, bytesOf_inj (by rw [he]; simp [bytesOf])⟩
      have hlen : ss.length = d.files.length := by have := hperm.length_eq; simpa using this
      obtain ⟨A, c, rfl⟩ := own_slice hrow
      have KS := Lib.hid (sort_own wr w.heap.size ss.length _ ss rfl (by omega) hrow)
      have hs := Lib.hid (sort_names hperm)
      have hL := Lib.hid hlen
      have hlt := Lib.hid fun r hr => (hrow.lt r hr).1
      clear hlen hperm hC hl0 hmp hsd hrow hcs hsz
      go_wp2_with (go_at_call 112; (with_reducible refine (KS.out).mono ?_); rintro e w' ⟨rfl, hg', hown'⟩)
      go_ret
      unfold GaveN
      rw [← hL.out, ← hs.out]
      exact ⟨A, c, rfl, hnx.grown hg' hlt.out, hown'⟩
    · intro x c kl yd yp w2 cnt2 hkey hlk hv hat hrg2 hlt hg2 hs2 hen
      obtain ⟨x', ex, rfl, _⟩ := Maps.keyOf_str Tryz.underlying9 hkey
      obtain rfl : x = x' := encStr_inj ex
      have hrow2 := hrow.kept hg2 (Or.inr (row_ne_iter hrow hrg).symm)
      clear hs2
      go_wp2_with (at_builtin; refine wpList_append_own _ rfl _ _ 128 rfl w.heap.size 9 i0 (.string ⟨#[]⟩) 1 16 Tryz.underlying128 hi hz0 hz1 hz2 rfl (by decide) _ _ _ rfl (hrow2.alloc _) ⟨w2.heap.size, 0, none⟩ 1 1 [encStr x] rfl rfl (cell_one_new _ _ _) (by simp [Value.oneCell', encStr]) (by unfold maxLen at *; omega) (by omega) (by have := hnx.size; have := hg2.size; simp; omega) ?_; intro v' w3 hown' hg3 hnil3; go_frame)
      have hrg3 := (hrg2.alloc _).kept hg3 (row_ne_low hrow2 hbl) (row_ne_iter hrow2 hrg2)
      go_roundw
      case rel =>
        refine ⟨_, cnt2, ss ++ [x], hrg3, by simp; omega, by simpa using hown', hC.step hlk hat, ?_⟩
        exact (ExtA (hnx.grown hg2 (fun j hj => by cases hj; exact Nat.le_refl _))).grown hg3 (fun j hj => (hrow2.lt j hj).1)
      case measure => rw [hrg3.left_eq, hrg.left_eq]; exact hlt
end Go.Proofs.YtjajbbgebblalaaGreatDoor

namespace Go.Proofs.YtjajbbgebblalaaGreatDoor
open Go.RowKit
set_option linter.unusedVariables false
set_option linter.unusedSimpArgs false
structure FV where
  name : ByteArray
  data : List UInt8
  safe : Int
abbrev HV := FV × Option Addr × Nat
def flcells (v : FV) (A : Option Addr) (c : Nat) : Array Value := #[.string v.name, .slice A v.data.length c, .int .i64 v.safe]
def flCells (hs : List HV) : List Value := hs.flatMap fun h => (flcells h.1 h.2.1 h.2.2).toList
theorem fil_wide : Wide Tryz.prog 58 3 := ⟨⟨_, Tryz.underlying58, rfl⟩, by kernel_rfl⟩
theorem el_fil : Elem Tryz.prog 58 (.agg (flcells ⟨⟨#[]⟩, [], 0⟩ none 0)) 3 48 := ⟨by kernel_rfl, rfl, by decide⟩
theorem alloc_fil (w : World) : (Instr.alloc 58 true (.tuple #[])).run Tryz.prog w = .ok (.pointer (some ⟨w.heap.size, 0, none⟩)) (w.alloc (.cells (flcells ⟨⟨#[]⟩, [], 0⟩ none 0) 58)) := by kernel_rfl
theorem flcells_one (v : FV) (A : Option Addr) (c : Nat) : ∀ u ∈ (flcells v A c).toList, u.oneCell' = true := fun u hu => by
  simp only [flcells, List.mem_cons, List.not_mem_nil, or_false] at hu
  rcases hu with rfl | rfl | rfl <;> rfl
theorem flCells_one (hs : List HV) : ∀ u ∈ flCells hs, u.oneCell' = true := fun u hu => by
  simp only [flCells, List.mem_flatMap] at hu
  obtain ⟨h, _, hu⟩ := hu
  exact flcells_one _ _ _ u hu
theorem flCells_len (hs : List HV) : (flCells hs).length = hs.length * 3 := by
  induction hs with
  | nil => rfl
  | cons h r ih => simp only [flCells, List.flatMap_cons, List.length_append] at ih ⊢; rw [ih]; simp [flcells]; omega
theorem flCells_app (hs gs : List HV) : flCells (hs ++ gs) = flCells hs ++ flCells gs := by simp [flCells]
theorem flCells_at (hs : List HV) (k j : Nat) (h : HV) (hk : hs[k]? = some h) (hj : j < 3) : (flCells hs)[k * 3 + j]? = (flcells h.1 h.2.1 h.2.2).toList[j]? := by
  induction hs generalizing k with
  | nil => simp at hk
  | cons g r ih =>
    have e : flCells (g :: r) = (flcells g.1 g.2.1 g.2.2).toList ++ flCells r := by simp [flCells]
    rw [e]
    cases k with
    | zero =>
      simp at hk
      subst hk
      rw [List.getElem?_append_left (by simp [flcells]; omega)]
      simp
    | succ k =>
      rw [List.getElem?_append_right (by simp [flcells]; omega)]
      have : (k + 1) * 3 + j - (flcells g.1 g.2.1 g.2.2).toList.length = k * 3 + j := by simp [flcells]; omega
      rw [this]
      exact ih k (by simpa using hk)
/-- A slice of files that reads as fs. -/
def FlRd (w : World) (A : Option Addr) (n : Nat) (fs : List FV) : Prop :=
  ∃ hs : List HV, hs.map (·.1) = fs ∧ RdN w 3 A n (flCells hs) ∧ ∀ h ∈ hs, Rd w h.2.1 h.1.data.length (u8s h.1.data)
theorem FlRd.len {w : World} {A : Option Addr} {n : Nat} {fs : List FV} (h : FlRd w A n fs) : fs.length = n := by
  obtain ⟨hs, rfl, h1, _⟩ := h
  have := h1.1
  rw [flCells_len] at this
  simp; omega
theorem FlRd.ext {w w' : World} {A : Option Addr} {n : Nat} {fs : List FV} (h : FlRd w A n fs) (hx : Ext w w') : FlRd w' A n fs := by
  obtain ⟨hs, h0, h1, h2⟩ := h
  exact ⟨hs, h0, h1.ext hx, fun g hg => (h2 g hg).ext hx⟩
theorem fl_at {w : World} {A : Option Addr} {n k : Nat} {fs : List FV} (h : FlRd w A n fs) (hk : k < n) :
    ∃ b o f Af cf, fs[k]? = some f ∧ A = some ⟨b, o, none⟩ ∧ w.rangeAt b (o + k * 3) (flcells f Af cf).toList ∧ Rd w Af f.data.length (u8s f.data) := by
  have hl := h.len
  obtain ⟨hs, rfl, h1, h2⟩ := h
  obtain ⟨b, o, e, hc⟩ := h1.2 (by omega)
  simp at hl
  have hg : hs[k]? = some hs[k] := List.getElem?_eq_getElem (by omega)
  refine ⟨b, o, hs[k].1, hs[k].2.1, hs[k].2.2, by simp [hg], e, fun j v hv => ?_, h2 _ (List.getElem_mem _)⟩
  have hj : j < 3 := by
    have := (List.getElem?_eq_some_iff.1 hv).1
    simpa [flcells] using this
  rw [Nat.add_assoc]
  exact hc _ _ (by rw [flCells_at hs k j _ hg hj]; exact hv)
/-- Files of the call's own: the row, and the bytes of each. -/
def OwnFl (w : World) (base : Nat) (A : Option Addr) (n c : Nat) (hs : List HV) : Prop :=
  w.ownsRow base 58 3 (.slice A n c) n (flCells hs) ∧ ∀ h ∈ hs, w.ownsRow base 5 1 (.slice h.2.1 h.1.data.length h.2.2) h.1.data.length (u8s h.1.data)
theorem OwnFl.rd {w : World} {base : Nat} {A : Option Addr} {n c : Nat} {hs : List HV} (h : OwnFl w base A n c hs) : FlRd w A n (hs.map (·.1)) :=
  ⟨hs, rfl, RdN.of_own h.1, fun g hg => rd_own (h.2 g hg)⟩
theorem OwnFl.ext {w w' : World} {base : Nat} {A : Option Addr} {n c : Nat} {hs : List HV} (h : OwnFl w base A n c hs) (hx : Ext w w') : OwnFl w' base A n c hs :=
  ⟨own_ext hx h.1, fun g hg => own_ext hx (h.2 g hg)⟩
theorem OwnFl.len {w : World} {base : Nat} {A : Option Addr} {n c : Nat} {hs : List HV} (h : OwnFl w base A n c hs) : hs.length = n := by
  have := h.1.1
  rw [flCells_len] at this
  omega
theorem OwnFl.nil_ (w : World) (base : Nat) : OwnFl w base none 0 0 [] := ⟨World.ownsRow_nil _ _ _ _, fun h hh => by cases hh⟩
theorem own_ne2A {w : World} {base base2 : Nat} {e e2 : TypeId} {s s2 : Nat} {v v2 : Value} {n n2 : Nat} {xs ys : List Value} (h : w.ownsRow base e s v n xs) (h2 : w.ownsRow base2 e2 s2 v2 n2 ys) (he : e ≠ e2) : v.ownBlock = none ∨ v.ownBlock ≠ v2.ownBlock :=
  own_ne (own_base h (Nat.min_le_left base base2)) (own_base h2 (Nat.min_le_right base base2)) he
section
variable {w : World}
theorem run_appendF (ty : TypeId) (W : World) {A0 : Option Addr} {n0 c0 : Nat} {l : List HV} (hown : w.ownsRow W.heap.size 58 3 (.slice A0 n0 c0) n0 (flCells l)) (hW : Ext W w)
    {A : Option Addr} {m c : Nat} {news : List HV} (hr : RdN w 3 A m (flCells news)) (hb : (l.length + news.length) * 48 ≤ 140737488355328) :
    ∃ A' n' c' w', (Builtin.append_ #[22, 22] ty #[.slice A0 n0 c0, .slice A m c]).run Tryz.prog w = .ok (.slice A' n' c') w' ∧ Ext W w' ∧ Hid (n' = l.length + news.length) ∧ w'.ownsRow W.heap.size 58 3 (.slice A' n' c') n' (flCells (l ++ news)) ∧
      (∀ base v n xs, w.ownsRow base 5 1 v n xs → w'.ownsRow base 5 1 v n xs) ∧ w.grownBy w' (Value.slice A0 n0 c0).ownBlock := by
  have e1 : n0 = l.length := by have := hown.1; rw [flCells_len] at this; omega
  have e2 : news.length = m := by have := hr.1; rw [flCells_len] at this; omega
  obtain ⟨v', w', hrun, hown', hg, _⟩ := run_append_rd (P := Tryz.prog) W.heap.size 22 ty 58 _ 3 48 Tryz.underlying22 el_fil _ n0 _ hown A m c _ hr (flCells_one _) (by simp only [maxLen]; omega) (by rw [e1, ← e2]; exact hb) hW.size
  obtain ⟨A', c', rfl⟩ := own_slice hown'
  refine ⟨A', _, c', w', hrun, Ext.grown hW hg fun g hg' => own_lt hown g hg', Lib.hid (by omega), ?_, fun base v n xs hv => hv.kept hg (own_ne2A hv hown (by decide)), hg⟩
  rw [flCells_app]
  exact hown'
theorem wpV_append {ops : Array Oper} {rest : List Oper} {o : Oper} {a : Act} {Q : Exit → Act → World → Prop} (hgd : o.guard = none) (s x : Operand)
    (ho : o.op = .call { callee := .builtin .append, args := #[s, x], argTypes := #[22, 22] }) (W : World)
    {A0 : Option Addr} {n0 c0 : Nat} {l : List HV} (hs : a.eval s = .slice A0 n0 c0) (hown : w.ownsRow W.heap.size 58 3 (.slice A0 n0 c0) n0 (flCells l)) (hW : Ext W w)
    {A : Option Addr} {m c : Nat} {news : List HV} (hx : a.eval x = .slice A m c) (hr : RdN w 3 A m (flCells news)) (hb : (l.length + news.length) * 48 ≤ 140737488355328)
    (h : ∀ A' n' c' w', Ext W w' → Hid (n' = l.length + news.length) → w'.ownsRow W.heap.size 58 3 (.slice A' n' c') n' (flCells (l ++ news)) →
      (∀ base v n xs, w.ownsRow base 5 1 v n xs → w'.ownsRow base 5 1 v n xs) → w.grownBy w' (Value.slice A0 n0 c0).ownBlock →
      wpList Tryz.prog ops Q rest (a.put o.dst (.slice A' n' c')) w') : wpList Tryz.prog ops Q (o :: rest) a w := by
  obtain ⟨A', n', c', w', hrun, h1, h2, h3, h4, h5⟩ := run_appendF o.type W hown hW hr hb (c := c)
  refine wpList_plain hgd fun K hK => ?_
  unfold Oper.wp execOp
  simp only [ho, resolve, invoke, builtin, Sem.run_bind, Sem.run_pure, Result.andThen_ok, List.map_toArray, List.map_cons, List.map_nil, hs, hx, hrun]
  exact hK _ _ (h A' n' c' w' h1 h2 h3 h4 h5)
theorem step_appendF {ops : Array Oper} {o : Oper} {a : Act} {K : Act → World → Prop} {Q : Exit → Act → World → Prop} {E : Prop} (hgd : o.guard = none) (d : Option Tmp) (hd : o.dst = d) (s x : Operand)
    (ho : o.op = .call { callee := .builtin .append, args := #[s, x], argTypes := #[22, 22] }) (W : World)
    {A0 : Option Addr} {n0 c0 : Nat} {l : List HV} (hs : a.eval s = .slice A0 n0 c0) (hown : w.ownsRow W.heap.size 58 3 (.slice A0 n0 c0) n0 (flCells l)) (hW : Ext W w)
    {A : Option Addr} {m c : Nat} {news : List HV} (hx : a.eval x = .slice A m c) (hr : RdN w 3 A m (flCells news)) (hb : (l.length + news.length) * 48 ≤ 140737488355328)
    (hK : ∀ A' n' c' w', Ext W w' → Hid (n' = l.length + news.length) → w'.ownsRow W.heap.size 58 3 (.slice A' n' c') n' (flCells (l ++ news)) →
      (∀ base v n xs, w.ownsRow base 5 1 v n xs → w'.ownsRow base 5 1 v n xs) → w.grownBy w' (Value.slice A0 n0 c0).ownBlock → K (a.put d (.slice A' n' c')) w') :
    if Region.wanted o (yielded ops a.tmps) = true then Oper.wp Tryz.prog o a w K Q else E := by
  subst hd
  have hw : Region.wanted o (yielded ops a.tmps) = true := by simp [Region.wanted, hgd]
  rw [if_pos hw]
  obtain ⟨A', n', c', w', hrun, h1, h2, h3, h4, h5⟩ := run_appendF o.type W hown hW hr hb (c := c)
  unfold Oper.wp execOp
  simp only [ho, resolve, invoke, builtin, Sem.run_bind, Sem.run_pure, Result.andThen_ok, List.map_toArray, List.map_cons, List.map_nil, hs, hx, hrun]
  exact hK A' n' c' w' h1 h2 h3 h4 h5
end
theorem rdV_new (w : World) (g : Nat) (f : FV) (A : Option Addr) (c : Nat) (hg : w.heap.size = g) : RdN (w.alloc (.cells #[.string f.name, .slice A f.data.length c, .int .i64 f.safe] 58)) 3 (some ⟨g, 0, none⟩) 1 (flCells [(f, A, c)]) := by
  subst hg
  have h := rd_new w #[.string f.name, .slice A f.data.length c, .int .i64 f.safe] 58
  exact ⟨rfl, fun _ => h.2 (by simp)⟩
def Fil.fv (f : Fil) : FV := ⟨f.name, f.data, (f.safe : Nat)⟩
theorem sortF_get {W w : World} {g b : Nat} {d : Dk} {D : DataW Value} {hs : List HF} (h : FsX W w g d b D hs) {k : Nat} (hk : k < d.files.length) : ∃ l1 l2 fn fd fs p A c0, hs = l1 ++ (⟨fn, fd, fs⟩, p, A, c0) :: l2 ∧ (sortF d.files)[k]? = some ⟨fn, fd, fs⟩ := by
  obtain ⟨f, hf⟩ : ∃ f, (sortF d.files)[k]? = some f := ⟨_, List.getElem?_eq_getElem (by rw [sortF_len]; exact hk)⟩
  have hm : f ∈ d.files := (sortF_perm _).mem_iff.1 (List.mem_of_getElem? hf)
  rw [← h.hsd] at hm
  obtain ⟨⟨⟨fn, fd, fs⟩, p, A, c0⟩, hf2, rfl⟩ := List.mem_map.1 hm
  obtain ⟨l1, l2, rfl⟩ := List.append_of_mem hf2
  exact ⟨l1, l2, fn, fd, fs, p, A, c0, rfl, hf⟩
/-- What Image answers. -/
def GaveF (w : World) (l : List FV) (e : Ending) (w' : World) : Prop :=
  ∃ A c hs, e = .returned (.slice A l.length c) ∧ hs.map (·.1) = l ∧ Ext w w' ∧ OwnFl w' w.heap.size A l.length c hs
end Go.Proofs.YtjajbbgebblalaaGreatDoor

namespace Go.Proofs.YtjajbbgebblalaaGreatDoor
open Go.RowKit
set_option linter.unusedVariables false
set_option linter.unusedSimpArgs false
open Go.Maps
open Go.Sort
theorem nm_at {w : World} {A : Option Addr} {n k : Nat} {l : List Fil} {f : Fil} (hr : Rd w A n (nmV l)) (hk : l[k]? = some f) :
    ∃ b o, A = some ⟨b, o, none⟩ ∧ w.cell? ⟨b, o + k, none⟩ = some (.string f.name) := by
  have hlt : k < l.length := (List.getElem?_eq_some_iff.1 hk).1
  obtain ⟨b, o, e, hc⟩ := hr.2 (by have := hr.1; rw [nmV_len] at this; omega)
  exact ⟨b, o, e, hc k _ (by simp [nmV, hk])⟩
def ImgR (w : World) (l : List FV) (c3 c12 : Value) (wr : World) : Prop :=
  ∃ (k : Nat) (A : Option Addr) (c : Nat) (hs : List HV), c12 = .int .i64 k ∧ k ≤ l.length ∧ c3 = .slice A k c ∧ hs.map (·.1) = l.take k ∧ Ext w wr ∧ OwnFl wr w.heap.size A k c hs
def imgL (d : Dk) : List FV := (sortF d.files).map Fil.fv
theorem imgL_len (d : Dk) : (imgL d).length = d.files.length := by unfold imgL; rw [List.length_map, sortF_len]
theorem file_cap {W w : World} {g b : Nat} {d : Dk} {D : DataW Value} {l1 l2 : List HF} {nm : ByteArray} {fd : List UInt8} {fs p c0 : Nat} {A : Option Addr} (h : FsX W w g d b D (l1 ++ (⟨nm, fd, fs⟩, p, A, c0) :: l2)) : fd.length ≤ c0 ∧ c0 ≤ maxLen := by
  rcases (h.fil (⟨nm, fd, fs⟩, p, A, c0) (by simp)).2.2 with ⟨hv, h2⟩ | ⟨g2, cap, cur, hv, _, _, h2, h3, _⟩
  · injection hv with _ h3 h4; dsimp only at h2 h4; omega
  · injection hv with _ h5 h4; dsimp only at h2 h4; subst h4; exact ⟨h2, h3⟩
theorem name_len {W w : World} {g b : Nat} {d : Dk} {D : DataW Value} {hs : List HF} (h : FsX W w g d b D hs) {f : HF} (hf : f ∈ hs) : f.1.name.size ≤ maxLen := by
  obtain ⟨n, _, ho⟩ := h.own
  obtain ⟨es, rfl, hko⟩ := ho.keysOf
  have hh := h.map.2.2.2.1 f.1.name
  have ht : ((hs.map fun h => (h.1.name, h.2.1)).any fun p => decide (p.1 = f.1.name)) = true := List.any_eq_true.2 ⟨(f.1.name, f.2.1), List.mem_map.2 ⟨f, hf, rfl⟩, by simp⟩
  rw [ht, has_eq, List.any_eq_true] at hh
  obtain ⟨p, hp, hsame⟩ := hh
  obtain ⟨v, hv⟩ := hko p hp
  obtain ⟨x, _, hx, hl⟩ := Maps.keyOf_str Tryz.underlying9 hv
  rw [hx] at hsame
  have : x = f.1.name.data.toList := by simpa [Lit.sameKey, nmLit] using hsame
  rw [this] at hl
  simpa using hl
set_option maxRecDepth 100000 in
set_option maxHeartbeats 4000000 in
theorem image_any (W w : World) (g b : Nat) (d : Dk) (D : DataW Value) (hs : List HF) (h : FsX W w g d b D hs) (hk : DkOk d) :
    Calls Tryz.prog 19 #[ptrV g] w (GaveF w (imgL d)) := by
  unfold ptrV
  have HX := Lib.hid h
  have KN := Lib.hid (names_any W w g b d D hs h)
  have hcnt : d.files.length ≤ 700 := by rw [← h.hsd, List.length_map]; exact h.cnt
  unfold ptrV GaveN at KN
  obtain ⟨L, hL⟩ : ∃ L, L = d.files.length := ⟨_, rfl⟩
  rw [← hL] at KN hcnt
  have HL := Lib.hid hL
  clear h hL
  go_enter Tryz.func19, Tryz.ntmps19
  go_wp2_with (go_at_call 68; (with_reducible refine (KN.out).mono ?_); rintro e w1 ⟨An, cn, rfl, hx1, hown1⟩)
  have Hr := Lib.hid (Rd.of_own hown1)
  go_loopw [3, 12] (fun c3 c12 wr => ImgR w1 (imgL d) c3 c12 wr) (fun _ c12 _ => L - (intOf c12).toNat)
  case atStart => exact ⟨0, none, 0, [], rfl, by omega, rfl, rfl, Ext.rfl' _, OwnFl.nil_ _ _⟩
  case round =>
    obtain ⟨k, A1, c1, gs, rfl, hkL, rfl, hmap, hx, hown⟩ := hrel
    rw [imgL_len, ← HL.out] at hkL
    have Hmap := Lib.hid hmap
    have Hown := Lib.hid hown
    have Hgl := Lib.hid hown.len
    clear hmap hown hown1
    by_cases hlt : k < L
    · obtain ⟨l1, l2, fn, fd, fs, p, A, c0, rfl, hfk⟩ := sortF_get HX.out (k := k) (by have := HL.out; omega)
      obtain ⟨nb, no, rfl, e0⟩ := nm_at (Hr.out.ext hx) hfk
      have hX := HX.out.ext_ (hx1.tr hx)
      have k0 : wr.cell? ⟨g, 0, none⟩ = some (.map (some b)) := hX.blk.cell 0
      have hl := look_hit (nm := fn) (p := p) hX.own hX.map (List.mem_map.2 ⟨((⟨fn, fd, fs⟩, p, A, c0) : HF), by simp, rfl⟩) (name_len hX (f := ((⟨fn, fd, fs⟩, p, A, c0) : HF)) (by simp))
      unfold ptrV at hl
      obtain ⟨hF, hO⟩ := hX.fil (⟨fn, fd, fs⟩, p, A, c0) (by simp)
      unfold filcells at hF
      dsimp only at hF hO e0
      have hlim := (file_lim HX.out hk)
      have KC := Lib.hid fun (w2 : World) (hx2 : Ext wr w2) => clone_any A fd.length c0 fd w2 (hO.rd.ext hx2) (by omega)
      have Hfk := Lib.hid hfk
      obtain ⟨n0, hn0⟩ : ∃ n0, n0 = fd.length := ⟨_, rfl⟩
      unfold NewB at KC
      rw [← hn0] at hF KC hlim
      have Hn0 := Lib.hid hn0
      have Hrd := Lib.hid fun (W : World) (A2 : Option Addr) (c2 : Nat) => (show RdN (W.alloc (.cells #[.string fn, .slice A2 n0 c2, .int .i64 (fs : Nat)] 58)) 3 (some ⟨W.heap.size, 0, none⟩) 1 (flCells [(⟨fn, fd, (fs : Nat)⟩, A2, c2)]) from by rw [hn0]; exact rdV_new W _ ⟨fn, fd, (fs : Nat)⟩ A2 c2 rfl)
      have q0 : wr.cell? ⟨p, 0, none⟩ = some (.slice A n0 c0) := hF.cell 0
      have q1 : wr.cell? ⟨p, 1, none⟩ = some (.int .i64 (fs : Nat)) := hF.cell 1
      have hF1 := ((HX.out.ext_ hx1).fil (⟨fn, fd, fs⟩, p, A, c0) (by simp)).1
      unfold filcells at hF1
      dsimp only at hF1
      rw [← hn0] at hF1
      have HS := Lib.hid fun (w' : World) (hx' : Ext w1 w') => (show w'.cell? ⟨p, 0, none⟩ = some (.slice A n0 c0) ∧ w'.cell? ⟨p, 1, none⟩ = some (.int .i64 (fs : Nat)) from ⟨hx'.cell (hF1.cell 0), hx'.cell (hF1.cell 1)⟩)
      clear hfk hn0 hO hF hX hk hF1
      go_wp2_with fail
      go_region_held3 (fun w' => w'.cell? ⟨p, 0, none⟩ = some (.slice A n0 c0) ∧ w'.cell? ⟨p, 1, none⟩ = some (.int .i64 (fs : Nat))) (exact HS.out _ (by repeat (first | with_reducible exact Below.refl _ _ | with_reducible assumption | with_reducible refine ExtD ?_ | with_reducible refine ExtDN ?_ | with_reducible refine ExtA ?_ | (with_reducible refine ExtR ?_ ?_; (first | omega | (dsimp only; omega) | (simp; done) | (simp; omega))) | (with_reducible refine ExtS ?_ ?_; (first | omega | (dsimp only; omega) | (simp; done) | (simp; omega))) | with_reducible refine Ext.tr ?_ (by with_reducible assumption))))
        (first
          | (go_at_call 53; (with_reducible refine (KC.out _ (by repeat (first | with_reducible exact Below.refl _ _ | with_reducible assumption | with_reducible refine ExtD ?_ | with_reducible refine ExtDN ?_ | with_reducible refine ExtA ?_ | (with_reducible refine ExtR ?_ ?_; (first | omega | (dsimp only; omega) | (simp; done) | (simp; omega))) | (with_reducible refine ExtS ?_ ?_; (first | omega | (dsimp only; omega) | (simp; done) | (simp; omega))) | with_reducible refine Ext.tr ?_ (by with_reducible assumption)))).mono ?_); rintro e w2 ⟨A2, c2, rfl, hx2, hown2⟩)
          | (refine step_appendF rfl (some 35) rfl (.tmp 22) (.tmp 34) rfl w1 (by rfl) (own_ext (w := wr) (by repeat (first | with_reducible exact Below.refl _ _ | with_reducible assumption | with_reducible refine ExtD ?_ | with_reducible refine ExtDN ?_ | with_reducible refine ExtA ?_ | (with_reducible refine ExtR ?_ ?_; (first | omega | (dsimp only; omega) | (simp; done) | (simp; omega))) | (with_reducible refine ExtS ?_ ?_; (first | omega | (dsimp only; omega) | (simp; done) | (simp; omega))) | with_reducible refine Ext.tr ?_ (by with_reducible assumption))) Hown.out.1) (by repeat (first | with_reducible exact Below.refl _ _ | with_reducible assumption | with_reducible refine ExtD ?_ | with_reducible refine ExtDN ?_ | with_reducible refine ExtA ?_ | (with_reducible refine ExtR ?_ ?_; (first | omega | (dsimp only; omega) | (simp; done) | (simp; omega))) | (with_reducible refine ExtS ?_ ?_; (first | omega | (dsimp only; omega) | (simp; done) | (simp; omega))) | with_reducible refine Ext.tr ?_ (by with_reducible assumption))) (by rfl) (Hrd.out _ _ _) (by have := Hgl.out; simp; omega) ?_; intro A3 n3 c3 w3 hx3 hn3 hown3 hk3 hg3))
      go_wp2_with fail
      go_roundw
      case rel =>
        have hn : n3 = k + 1 := by rw [hn3.out, Hgl.out]; rfl
        subst hn
        have hfl : fd.length = n0 := Hn0.out.symm
        refine ⟨k + 1, A3, c3, gs ++ [(⟨fn, fd, (fs : Nat)⟩, A2, c2)], by go_num, by rw [imgL_len, ← HL.out]; omega, rfl, ?_, hx3, hown3, ?_⟩
        · rw [List.map_append, Hmap.out, List.take_add_one]
          unfold imgL
          rw [List.getElem?_map, Hfk.out]
          rfl
        · intro h hh
          rcases List.mem_append.1 hh with hh | hh
          · exact hk3 _ _ _ _ (own_ext (w := wr) (by repeat (first | with_reducible exact Below.refl _ _ | with_reducible assumption | with_reducible refine ExtD ?_ | with_reducible refine ExtDN ?_ | with_reducible refine ExtA ?_ | (with_reducible refine ExtR ?_ ?_; (first | omega | (dsimp only; omega) | (simp; done) | (simp; omega))) | (with_reducible refine ExtS ?_ ?_; (first | omega | (dsimp only; omega) | (simp; done) | (simp; omega))) | with_reducible refine Ext.tr ?_ (by with_reducible assumption))) (Hown.out.2 h hh))
          · simp only [List.mem_singleton] at hh
            subst hh
            dsimp only
            rw [hfl]
            exact hk3 _ _ _ _ (own_ext (w := w2) (by repeat (first | with_reducible exact Below.refl _ _ | with_reducible assumption | with_reducible refine ExtD ?_ | with_reducible refine ExtDN ?_ | with_reducible refine ExtA ?_ | (with_reducible refine ExtR ?_ ?_; (first | omega | (dsimp only; omega) | (simp; done) | (simp; omega))) | (with_reducible refine ExtS ?_ ?_; (first | omega | (dsimp only; omega) | (simp; done) | (simp; omega))) | with_reducible refine Ext.tr ?_ (by with_reducible assumption))) (own_base hown2 (by have := hx.size; simp; omega)))
      case measure => simp [intOf]; omega
    · obtain rfl : k = L := by omega
      have htk : (imgL d).take k = imgL d := List.take_of_length_le (by rw [imgL_len, ← HL.out]; omega)
      have hlk : (imgL d).length = k := by rw [imgL_len, ← HL.out]
      have Htk := Lib.hid htk
      have Hlk := Lib.hid hlk
      clear htk hlk
      go_wp2_with fail
      go_ret
      unfold GaveF
      rw [Hlk.out]
      exact ⟨A1, c1, gs, rfl, by rw [Hmap.out, Htk.out], hx1.tr hx, own_base Hown.out.1 hx1.size, fun h hh => own_base (Hown.out.2 h hh) hx1.size⟩
def GaveL (w : World) (d : Dk) (e : Ending) (w' : World) : Prop :=
  if d.down = true then e = .returned (.slice none 0 0) ∧ Ext w w' else GaveN w w d.files e w'
end Go.Proofs.YtjajbbgebblalaaGreatDoor
