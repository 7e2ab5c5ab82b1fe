/-
  Words on memory that this seat's proofs share: an extension of a world, a slice that reads as a list of cells, hidden facts. No program in sight.
-/
import Derived.WalkKit
import Derived.ProofKit
import Derived.OpenShut
import Derived.WalkLawsBesides
import Derived.WalkSpells
import Derived.WalkSmall
import Derived.Deep.QuietTactic
import Derived.Deep.RegionWith
import Derived.Deep.DeepMust
import Derived.Deep.DeepCutAuto
import Derived.BigQuiet
import Derived.Outline
import Derived.Lib.Hide
import Derived.Laws.OwnMore
import Derived.Laws.AppendOwn
import Derived.Maps.AppendAt
import Derived.Deep.AppendLies
import Derived.Deep.CutBlock
namespace Go.Proofs.YtjajbbgebblalaaGreatDoor
open Go.RowKit
set_option linter.unusedVariables false
set_option linter.unusedSimpArgs false

/-- The later world holds all that the earlier one held, as it was. -/
abbrev Ext (w w' : World) : Prop := Below w.heap.size w w'

theorem Ext.rfl' (w : World) : Ext w w := Below.refl _ _
theorem Ext.tr {a b c : World} (h : Ext a b) (k : Ext b c) : Ext a c := Below.trans h (k.mono h.size)

theorem ExtD {a w : World} (h : Ext a w) : Ext a w.drew := Below.drew h
theorem ExtDN {a w : World} {n : Nat} (h : Ext a w) : Ext a (w.drewN n) := below_drewN h n
theorem ExtA {a w : World} {o : Obj} (h : Ext a w) : Ext a (w.alloc o) := Below.alloc h h.size o
theorem ExtS {a w : World} {p : Addr} {v : Value} (hp : a.heap.size ≤ p.block) (h : Ext a w) : Ext a (w.setCell p v) := Below.setCell h hp v

/-- The cell at a place that was there holds what it held. -/
theorem Ext.cell {w w' : World} (h : Ext w w') {p : Addr} {v : Value} (hp : w.cell? p = some v) : w'.cell? p = some v :=
  (Below.cell h (World.block_lt_of_cell? w p hp)).trans hp

theorem Ext.frz {w w' : World} (h : Ext w w') {p : Addr} {v : Value} (hp : w.cell? p = some v) (hf : w.frozen? p = false) : w'.frozen? p = false :=
  (Below.frozen h (World.block_lt_of_cell? w p hp)).trans hf

/-- A slice value (address A, n elements of one cell each) that reads as the cells xs. -/
def Rd (w : World) (A : Option Addr) (n : Nat) (xs : List Value) : Prop :=
  xs.length = n ∧ (0 < n → ∃ b o, A = some ⟨b, o, none⟩ ∧ ∀ j u, xs[j]? = some u → w.cell? ⟨b, o + j, none⟩ = some u)

theorem Rd.nil_ (w : World) (A : Option Addr) : Rd w A 0 [] := ⟨rfl, fun h => absurd h (by omega)⟩
theorem Rd.keep {w w' : World} {A : Option Addr} {n : Nat} {xs : List Value} (h : Rd w A n xs) (hk : ∀ b o u, w.cell? ⟨b, o, none⟩ = some u → w'.cell? ⟨b, o, none⟩ = some u) : Rd w' A n xs :=
  ⟨h.1, fun hn => by
    obtain ⟨b, o, e, hc⟩ := h.2 hn
    exact ⟨b, o, e, fun j u hu => hk _ _ _ (hc j u hu)⟩⟩
theorem Rd.ext {w w' : World} {A : Option Addr} {n : Nat} {xs : List Value} (h : Rd w A n xs) (hb : Ext w w') : Rd w' A n xs := h.keep fun _ _ _ hu => hb.cell hu
theorem Rd.at_ {w : World} {A : Option Addr} {n k : Nat} {xs : List Value} (h : Rd w A n xs) (hk : k < n) :
    ∃ b o, A = some ⟨b, o, none⟩ ∧ w.cell? ⟨b, o + k, none⟩ = some (xs.getD k undef) := by
  obtain ⟨b, o, e, hc⟩ := h.2 (by omega)
  have hl : k < xs.length := by have := h.1; omega
  refine ⟨b, o, e, ?_⟩
  rw [hc k xs[k] (List.getElem?_eq_getElem hl)]
  simp [List.getD, List.getElem?_eq_getElem hl]
/-- Not nil where an element is: all the cells at once. -/
theorem Rd.some_ {w : World} {A : Option Addr} {n : Nat} {xs : List Value} (h : Rd w A n xs) (hn : 0 < n) :
    ∃ b o, A = some ⟨b, o, none⟩ ∧ ∀ j, j < n → w.cell? ⟨b, o + j, none⟩ = some (xs.getD j undef) := by
  obtain ⟨b, o, e, hc⟩ := h.2 hn
  refine ⟨b, o, e, fun j hj => ?_⟩
  have hl : j < xs.length := by have := h.1; omega
  rw [hc j xs[j] (List.getElem?_eq_getElem hl)]
  simp [List.getD, List.getElem?_eq_getElem hl]

/-- A row of the call's own reads as what it holds. -/
theorem Rd.of_own {w : World} {base : Nat} {e : TypeId} {A : Option Addr} {n c : Nat} {xs : List Value} (h : w.ownsRow base e 1 (.slice A n c) n xs) : Rd w A n xs := by
  refine ⟨by have := h.1; omega, fun hn => ?_⟩
  rcases h.2 with ⟨hv, h0⟩ | ⟨g, cap, cur, hv, _, hg, _⟩
  · omega
  · injection hv with hA
    subst hA
    refine ⟨g, 0, rfl, fun j u hu => ?_⟩
    have := h.cells (g := g) rfl j u hu
    by_cases hj : j = 0
    · subst hj
      simpa [Addr.add] using this
    · simpa [Addr.add, hj] using this
/-- A new block reads as what was laid. -/
theorem rd_new (w : World) (cs : Array Value) (t : TypeId) : Rd (w.alloc (.cells cs t)) (some ⟨w.heap.size, 0, none⟩) cs.size cs.toList := by
  refine ⟨by simp, fun _ => ⟨w.heap.size, 0, rfl, fun j u hu => ?_⟩⟩
  rw [Nat.zero_add, World.cell?_alloc_new]
  simpa using hu

/-- What was there reads as it did: two rules for a walk. -/
theorem bcell {W w1 : World} (hb : Ext W w1) : (∀ b o, b < W.heap.size → w1.cell? ⟨b, o, none⟩ = W.cell? ⟨b, o, none⟩) ∧ (∀ b o, b < W.heap.size → w1.frozen? ⟨b, o, none⟩ = W.frozen? ⟨b, o, none⟩) :=
  ⟨fun b o h => Below.cell hb (p := ⟨b, o, none⟩) h, fun b o h => Below.frozen hb (p := ⟨b, o, none⟩) h⟩

/-- A slice value (address A, n elements of s cells each) that reads as the cells xs, element behind element. -/
def RdN (w : World) (s : Nat) (A : Option Addr) (n : Nat) (xs : List Value) : Prop :=
  xs.length = n * s ∧ (0 < n → ∃ b o, A = some ⟨b, o, none⟩ ∧ ∀ j u, xs[j]? = some u → w.cell? ⟨b, o + j, none⟩ = some u)
theorem Rd.toN {w : World} {A : Option Addr} {n : Nat} {xs : List Value} (h : Rd w A n xs) : RdN w 1 A n xs := ⟨by rw [Nat.mul_one]; exact h.1, h.2⟩
theorem RdN.to1 {w : World} {A : Option Addr} {n : Nat} {xs : List Value} (h : RdN w 1 A n xs) : Rd w A n xs := ⟨by have := h.1; omega, h.2⟩
theorem RdN.nil_ (w : World) (s : Nat) (A : Option Addr) : RdN w s A 0 [] := ⟨by simp, fun h => absurd h (by omega)⟩
theorem RdN.keep {w w' : World} {s : Nat} {A : Option Addr} {n : Nat} {xs : List Value} (h : RdN w s A n xs) (hk : ∀ b o u, w.cell? ⟨b, o, none⟩ = some u → w'.cell? ⟨b, o, none⟩ = some u) : RdN w' s A n xs :=
  ⟨h.1, fun hn => by
    obtain ⟨b, o, e, hc⟩ := h.2 hn
    exact ⟨b, o, e, fun j u hu => hk _ _ _ (hc j u hu)⟩⟩
theorem RdN.ext {w w' : World} {s : Nat} {A : Option Addr} {n : Nat} {xs : List Value} (h : RdN w s A n xs) (hb : Ext w w') : RdN w' s A n xs := h.keep fun _ _ _ hu => hb.cell hu
theorem RdN.of_own {w : World} {base s : Nat} {e : TypeId} {A : Option Addr} {n c : Nat} {xs : List Value} (h : w.ownsRow base e s (.slice A n c) n xs) : RdN w s A n xs := by
  refine ⟨h.1, fun hn => ?_⟩
  rcases h.2 with ⟨hv, h0⟩ | ⟨g, cap, cur, hv, _, hg, _⟩
  · omega
  · injection hv with hA
    subst hA
    refine ⟨g, 0, rfl, fun j u hu => ?_⟩
    have := h.cells (g := g) rfl j u hu
    by_cases hj : j = 0
    · subst hj
      simpa [Addr.add] using this
    · simpa [Addr.add, hj] using this

/-- What a program says of an element type: its zero value, its cells, its bytes. -/
def Elem (P : Program) (e : TypeId) (z : Value) (size bytes : Nat) : Prop :=
  (P.info? e).map (fun i => (i.zero, i.size, i.bytes)) = some (some z, size, bytes) ∧ z.cells.size = size ∧ 0 < size

section
variable {P : Program} {w : World}
theorem run_append_nil_src (base : Nat) (t ty e : TypeId) (i : TypeInfo) (size : Nat) (ht : P.underlying t = some (.slice e)) (hi : P.info? e = some i)
    (v : Value) (n : Nat) (xs : List Value) (hown : w.ownsRow base e size v n xs) (c : Nat) : (Builtin.append_ #[t, t] ty #[v, .slice none 0 c]).run P w = .ok v w := by
  rcases hown.2 with ⟨rfl, rfl⟩ | ⟨g, cap, cur, rfl, _, _, hnc, _⟩
  · simp [Builtin.append_, run_underlying ht, sizeOf, typeInfo, hi, Builtin.lenOf, Builtin.firstCells]
  · simp [Builtin.append_, run_underlying ht, sizeOf, typeInfo, hi, Builtin.lenOf, Builtin.firstCells, hnc, storeCells]

/-- append onto a row of the call's own (or nil), from any slice that reads: the source may be nil, empty or not. -/
theorem run_append_rd (base : Nat) (t ty e : TypeId) (z : Value) (size bytes : Nat) (ht : P.underlying t = some (.slice e)) (he : Elem P e z size bytes)
    (v : Value) (n : Nat) (xs : List Value) (hown : w.ownsRow base e size v n xs)
    (A : Option Addr) (m c : Nat) (news : List Value) (hr : RdN w size A m news) (h1 : ∀ u ∈ news, u.oneCell' = true)
    (h63 : n + m ≤ maxLen) (hbytes : (n + m) * bytes ≤ 140737488355328) (hbase : base ≤ w.heap.size) :
    ∃ v' w', (Builtin.append_ #[t, t] ty #[v, .slice A m c]).run P w = .ok v' w' ∧ w'.ownsRow base e size v' (n + m) (xs ++ news) ∧ w.grownBy w' v.ownBlock ∧
      (v'.ownBlock = v.ownBlock ∨ v'.ownBlock = some w.heap.size) := by
  obtain ⟨i, hi, hz, hsize, hby⟩ := info_parts he.1
  obtain ⟨-, hzs, hsz⟩ := he
  have hcells : 0 < m → ∃ ad, A = some ad ∧ ∀ j u, news[j]? = some u → w.cell? (ad.add j) = some u := by
    intro hm
    obtain ⟨b, o, rfl, hc⟩ := hr.2 hm
    refine ⟨_, rfl, fun j u hu => ?_⟩
    have := hc j u hu
    by_cases hj : j = 0
    · subst hj
      simpa [Addr.add] using this
    · simpa [Addr.add, hj] using this
  rcases A with _ | ad
  · have hm : m = 0 := by
      rcases Nat.eq_zero_or_pos m with h0 | h0
      · exact h0
      · obtain ⟨ad, h, _⟩ := hcells h0
        cases h
    subst hm
    have hn : news = [] := List.eq_nil_of_length_eq_zero (by have := hr.1; omega)
    subst hn
    exact ⟨v, w, run_append_nil_src base t ty e i size ht hi v n xs hown c, by simpa using hown, World.grownBy.refl w _, .inl rfl⟩
  · have hc' : ∀ j u, news[j]? = some u → w.cell? (ad.add j) = some u := by
      intro j u hu
      rcases Nat.eq_zero_or_pos m with h0 | h0
      · subst h0
        have hn : news = [] := List.eq_nil_of_length_eq_zero (by have := hr.1; omega)
        subst hn
        simp at hu
      · obtain ⟨ad', h, hc⟩ := hcells h0
        injection h with h
        subst h
        exact hc j u hu
    obtain ⟨v', w', hrun, h2, h3, _, h5⟩ := run_append_own_at (P := P) w base t ty e i z size bytes ht hi hz hsize hby hzs hsz v n xs hown ad m c news hr.1 hc' h1 h63 hbytes hbase
    exact ⟨v', w', hrun, h2, h3, h5⟩

theorem wpL_append {ops : Array Oper} {rest : List Oper} {o : Oper} {a : Act} {Q : Exit → Act → World → Prop} (hgd : o.guard = none) (s x : Operand) (t : TypeId)
    (ho : o.op = .call { callee := .builtin .append, args := #[s, x], argTypes := #[t, t] })
    (base : Nat) (e : TypeId) (z : Value) (size bytes : Nat) (ht : P.underlying t = some (.slice e)) (he : Elem P e z size bytes)
    (v : Value) (n : Nat) (xs : List Value) (hs : a.eval s = v) (hown : w.ownsRow base e size v n xs)
    (A : Option Addr) (m c : Nat) (news : List Value) (hx : a.eval x = .slice A m c) (hr : RdN w size A m news) (h1 : ∀ u ∈ news, u.oneCell' = true)
    (n' : Nat) (xs' : List Value) (hn' : n + m = n') (hxs' : xs ++ news = xs') (h63 : n' ≤ maxLen) (hbytes : n' * bytes ≤ 140737488355328) (hbase : base ≤ w.heap.size)
    (h : ∀ v' w', w'.ownsRow base e size v' n' xs' → w.grownBy w' v.ownBlock → (v'.ownBlock = v.ownBlock ∨ v'.ownBlock = some w.heap.size) → wpList P ops Q rest (a.put o.dst v') w') : wpList P ops Q (o :: rest) a w := by
  subst hn' hxs'
  obtain ⟨v', w', hrun, h2, h3, h4⟩ := run_append_rd (P := P) base t o.type e z size bytes ht he v n xs hown A m c news hr h1 h63 hbytes hbase
  refine wpList_plain hgd fun K hK => ?_
  unfold Oper.wp execOp
  simp only [ho, resolve, invoke, builtin, Sem.run_bind, Sem.run_pure, Result.andThen_ok, List.map_toArray, List.map_cons, List.map_nil, hs, hx, hrun]
  exact hK _ _ (h v' w' h2 h3 h4)

end
/-- Block g is just the cells cs of type t, none frozen. -/
def Blk (w : World) (g : Nat) (t : TypeId) (cs : Array Value) : Prop := w.heap[g]? = some (.cells cs t (0, 0))
section
variable {w w' : World} {g : Nat} {t : TypeId} {cs : Array Value}
theorem Blk.lt (h : Blk w g t cs) : g < w.heap.size := by
  rcases Nat.lt_or_ge g w.heap.size with hlt | hge
  · exact hlt
  · unfold Blk at h; rw [Array.getElem?_eq_none hge] at h; cases h
theorem Blk.cell (h : Blk w g t cs) (i : Nat) : w.cell? ⟨g, i, none⟩ = cs[i]? := cell_of_row w g i cs t (0, 0) h
theorem Blk.frozen (h : Blk w g t cs) (i : Nat) : w.frozen? ⟨g, i, none⟩ = false := by
  unfold Blk at h
  simp [World.frozen?, h]
theorem BlkN (hg : g = w.heap.size) : Blk (w.alloc (.cells cs t)) g t cs := by subst hg; exact heap_alloc_new w _
theorem BlkD (h : Blk w g t cs) : Blk w.drew g t cs := h
theorem BlkDN {n : Nat} (h : Blk w g t cs) : Blk (w.drewN n) g t cs := h
theorem BlkA {o : Obj} (h : Blk w g t cs) : Blk (w.alloc o) g t cs := (Below.heap_alloc w o g h.lt).trans h
theorem BlkF {p : Addr} {u : Value} (hp : g ≠ p.block) (h : Blk w g t cs) : Blk (w.setCell p u) g t cs := (Below.heap_setCell w p u g hp).trans h
theorem BlkS {i : Nat} {u : Value} (h : Blk w g t cs) : Blk (w.setCell ⟨g, i, none⟩ u) g t (cs.setIfInBounds i u) := by
  unfold Blk at h ⊢
  simp [World.setCell, Array.getElem?_modify, h]
theorem BlkE (h : Blk w g t cs) (hx : Ext w w') : Blk w' g t cs := (hx.block g h.lt).trans h
theorem Ext.blk (hx : Ext w w') (h : Blk w g t cs) : Blk w' g t cs := (hx.block g h.lt).trans h
theorem BlkG {row : Option Nat} (h : Blk w g t cs) (hx : w.grownBy w' row) (hg : some g ≠ row) : Blk w' g t cs := (hx.block g h.lt hg).trans h
theorem Blk.setRow_ {ds : Array Value} (h : Blk w g t cs) : Blk (w.setRow g ds) g t ds := by
  unfold Blk at h ⊢
  simp [World.setRow, Array.getElem?_modify, h]
theorem BlkR {g' : Nat} {ds : Array Value} (hne : g ≠ g') (h : Blk w g t cs) : Blk (w.setRow g' ds) g t cs := by
  unfold Blk at h ⊢
  simp only [World.setRow, Array.getElem?_modify]
  rw [if_neg (fun e => hne e.symm)]
  exact h
theorem ExtR {a w : World} {g : Nat} {ds : Array Value} (hg : a.heap.size ≤ g) (h : Ext a w) : Ext a (w.setRow g ds) :=
  h.trans ⟨rfl, rfl, rfl, by simp, fun k hk => by
    simp only [World.setRow, Array.getElem?_modify]
    rw [if_neg (by omega)]⟩
-- (see macros_short.txt)
end
section
variable {P : Program} {w : World}
/-- A type of several cells: a struct or an array of n cells. -/
def Wide (P : Program) (ty : TypeId) (n : Nat) : Prop := (∃ d, P.underlying ty = some d ∧ (match d with | .struct _ | .array _ _ => true | _ => false) = true) ∧ (P.info? ty).map (·.size) = some n
theorem run_store_row {g : Nat} {t : TypeId} {cur cs : Array Value} (hb : Blk w g t cur) (hsz : cs.size = cur.size) (h1 : ∀ v ∈ cs.toList, v.oneCell' = true) :
    (storeCells ⟨g, 0, none⟩ cs.toList).run P w = .ok () (w.setRow g cs) := by
  have hst := run_storeCells_at P g 0 t cs.toList 0 cur w hb (by simp [hsz]) h1
  have hd : List.drop cur.size cur.toList = [] := List.drop_of_length_le (by simp)
  simp [hsz, hd] at hst
  exact hst
/-- A whole struct is stored over a block of its own. -/
theorem wpL_store_row {ops : Array Oper} {rest : List Oper} {o : Oper} {a : Act} {Q : Exit → Act → World → Prop} (hgd : o.guard = none) (ty : TypeId) (x y : Operand) (ho : o.op = .store ty x y)
    (g : Nat) (t : TypeId) (cur cs : Array Value) (hx : a.eval x = .pointer (some ⟨g, 0, none⟩)) (hy : a.eval y = .agg cs) (hb : Blk w g t cur) (hsz : cs.size = cur.size) (h1 : ∀ v ∈ cs.toList, v.oneCell' = true) (n : Nat) (hw : Wide P ty n) (hn : cs.size = n)
    (h : wpList P ops Q rest (a.put o.dst undef) (w.setRow g cs)) : wpList P ops Q (o :: rest) a w := by
  have hst := run_storeCells_at P g 0 t cs.toList 0 cur w hb (by simp [hsz]) h1
  subst hn
  have hi := hw.2
  have hd : List.drop cur.size cur.toList = [] := List.drop_of_length_le (by simp)
  simp [hsz, hd] at hst
  obtain ⟨i, hi1, hi2⟩ := Option.map_eq_some_iff.1 hi
  have hsize : (sizeOf ty).run P w = .ok cs.size w := by simp [sizeOf, typeInfo, hi1, hi2]
  refine wpList_plain hgd fun K hK => ?_
  unfold Oper.wp execOp
  simp only [ho, hx, hy, Instr.storeAt, Instr.sureAddr, storeVar, Value.cells, Sem.run_bind, Sem.run_pure, Result.andThen_ok, hsize, hst]
  simp [hst]
  exact hK _ _ h

theorem wpL_load_row {ops : Array Oper} {rest : List Oper} {o : Oper} {a : Act} {Q : Exit → Act → World → Prop} (hgd : o.guard = none) (ty : TypeId) (x : Operand) (ho : o.op = .load ty x)
    (g : Nat) (t : TypeId) (cs : Array Value) (n : Nat) (hx : a.eval x = .pointer (some ⟨g, 0, none⟩)) (hb : Blk w g t cs) (hw : Wide P ty n) (hn : cs.size = n)
    (h : wpList P ops Q rest (a.put o.dst (.agg cs)) w) : wpList P ops Q (o :: rest) a w := by
  obtain ⟨⟨d, hu, hd⟩, hi⟩ := hw
  exact wpList_load_row hgd ty x ho g hx t cs (0, 0) d hb hu (by revert hd; cases d <;> simp) (by rw [hn]; exact hi) h
theorem res_row {fn : Func} {p : Tmp} {ty : TypeId} (h : fn.results = #[.cell p ty]) (tmps : Array Value) (w : World) (g : Nat) (t : TypeId) (cs : Array Value) (n : Nat)
    (hp : tmps.getD p undef = .pointer (some ⟨g, 0, none⟩)) (hb : Blk w g t cs) (hw : Wide P ty n) (hn : cs.size = n) : (results fn tmps).run P w = .ok (.agg cs) w := by
  obtain ⟨⟨d, hu, hd⟩, hi⟩ := hw
  exact results_cell_row h tmps w g t cs (0, 0) d hp hb hu (by revert hd; cases d <;> simp) (by rw [hn]; exact hi)
theorem setRow_alloc (w : World) (cur cs : Array Value) (t : TypeId) : (w.alloc (.cells cur t)).setRow w.heap.size cs = w.alloc (.cells cs t) := by
  show ({ w with heap := (w.heap.push (.cells cur t)).modify w.heap.size _ } : World) = { w with heap := w.heap.push (.cells cs t) }
  congr 1
  apply Array.ext_getElem?
  intro i
  rw [Array.getElem?_modify, Array.getElem?_push, Array.getElem?_push]
  by_cases h : w.heap.size = i
  · subst h; simp
  · simp [h, Ne.symm h]
/-- The same over the block that was laid last. -/
theorem wpL_store_new {ops : Array Oper} {rest : List Oper} {o : Oper} {a : Act} {Q : Exit → Act → World → Prop} (hgd : o.guard = none) (ty : TypeId) (x y : Operand) (ho : o.op = .store ty x y)
    (g : Nat) (t : TypeId) (cur cs : Array Value) (hx : a.eval x = .pointer (some ⟨g, 0, none⟩)) (hy : a.eval y = .agg cs) (hg : g = w.heap.size) (hsz : cs.size = cur.size) (h1 : ∀ v ∈ cs.toList, v.oneCell' = true) (n : Nat) (hw : Wide P ty n) (hn : cs.size = n)
    (h : wpList P ops Q rest (a.put o.dst undef) (w.alloc (.cells cs t))) : wpList P ops Q (o :: rest) a (w.alloc (.cells cur t)) := by
  subst hg
  refine wpL_store_row hgd ty x y ho _ t cur cs hx hy (heap_alloc_new w _) hsz h1 n hw hn ?_
  rw [setRow_alloc]
  exact h

/-- Behind an append: what was there when the call began is as it was. -/
theorem Ext.grown {a w w' : World} {row : Option Nat} (h : Ext a w) (hg : w.grownBy w' row) (hr : ∀ k, row = some k → a.heap.size ≤ k) : Ext a w' := Below.grown h hg h.size hr
theorem own_lt {w : World} {base s : Nat} {e : TypeId} {v : Value} {n : Nat} {xs : List Value} (h : w.ownsRow base e s v n xs) : ∀ k, v.ownBlock = some k → base ≤ k := fun k hk => (h.lt k hk).1
/-- A row in a block of its own is a slice value. -/
theorem own_slice {w : World} {base s : Nat} {e : TypeId} {v : Value} {n : Nat} {xs : List Value} (h : w.ownsRow base e s v n xs) : ∃ A c, v = .slice A n c := by
  rcases h.2 with ⟨rfl, rfl⟩ | ⟨g, cap, cur, rfl, _⟩
  · exact ⟨none, 0, rfl⟩
  · exact ⟨_, _, rfl⟩
/-- 'append([]T{}, xs...)': a new row that holds what xs holds. -/
theorem wpL_copy {ops : Array Oper} {rest : List Oper} {o : Oper} {a : Act} {Q : Exit → Act → World → Prop} (hgd : o.guard = none) (s x : Operand) (t : TypeId)
    (ho : o.op = .call { callee := .builtin .append, args := #[s, x], argTypes := #[t, t] })
    (e : TypeId) (z : Value) (size bytes : Nat) (ht : P.underlying t = some (.slice e)) (he : Elem P e z size bytes)
    (A : Option Addr) (m c : Nat) (news : List Value) (hs : a.eval s = .slice (some ⟨w.heap.size, 0, none⟩) 0 0) (hx : a.eval x = .slice A m c) (hr : RdN w size A m news) (h1 : ∀ u ∈ news, u.oneCell' = true)
    (hbytes : m * bytes ≤ 140737488355328) (h63 : m ≤ maxLen)
    (h : ∀ A' c' w', Ext w w' → w'.ownsRow w.heap.size e size (.slice A' m c') m news → wpList P ops Q rest (a.put o.dst (.slice A' m c')) w') : wpList P ops Q (o :: rest) a (w.alloc (.cells #[] e)) := by
  have hE : Ext w (w.alloc (.cells #[] e)) := (Below.refl _ _).alloc (Nat.le_refl _) _
  have W9 := World.ownsRow_made w (base := w.heap.size) (e := e) (size := size) #[] 0 (Nat.le_refl _) (by decide) (by simp)
  refine wpL_append hgd s x t ho w.heap.size e z size bytes ht he _ 0 [] hs W9 A m c news hx (hr.ext hE) h1 m news (by omega) (by simp) h63 hbytes (by simp) ?_
  intro v' w' hown hg _
  obtain ⟨A', c', rfl⟩ := own_slice hown
  exact h A' c' w' (Ext.grown hE hg fun g hg' => own_lt W9 g hg') hown
end
end Go.Proofs.YtjajbbgebblalaaGreatDoor
