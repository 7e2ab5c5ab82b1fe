/-
  A writer's script in memory, opened; rows of bytes that may be written over; lists of fields of the call's own, off the blocks that turn.
-/
import Derived.Test.YtcekdfhbbfednaaTurnC
import Derived.Test.YtcekdfhbbfednaaWrP
import Derived.Test.YtcekdfhbbfednaaOpenW
namespace Go.Proofs.Ytcekdfhbbfednaa
open Go.RowKit
set_option linter.unusedVariables false
set_option linter.unusedSimpArgs false
open Go.ChangeShapes Go.WideShapes Go.Deep
def ptcells (p : Pt) (A : Option Addr) (c : Nat) : Array Value := #[.int .i64 p.k, .int .i64 p.tag, .int .i64 p.v, .slice A p.b.length c]
abbrev HP := Pt × Option Addr × Nat
def ptCells (hs : List HP) : List Value := hs.flatMap fun h => (ptcells h.1 h.2.1 h.2.2).toList
theorem ptCells_len (hs : List HP) : (ptCells hs).length = hs.length * 4 := by
  induction hs with
  | nil => rfl
  | cons h r ih => simp only [ptCells, List.flatMap_cons, List.length_append] at ih ⊢; rw [ih]; simp [ptcells]; omega
theorem ptCells_app (hs gs : List HP) : ptCells (hs ++ gs) = ptCells hs ++ ptCells gs := by simp [ptCells]
theorem ptCells_at (hs : List HP) (k j : Nat) (h : HP) (hk : hs[k]? = some h) (hj : j < 4) : (ptCells hs)[k * 4 + j]? = (ptcells h.1 h.2.1 h.2.2).toList[j]? := by
  induction hs generalizing k with
  | nil => simp at hk
  | cons g r ih =>
    have e : ptCells (g :: r) = (ptcells g.1 g.2.1 g.2.2).toList ++ ptCells r := by simp [ptCells]
    rw [e]
    cases k with
    | zero =>
      simp at hk
      subst hk
      rw [List.getElem?_append_left (by simp [ptcells]; omega)]
      simp
    | succ k =>
      rw [List.getElem?_append_right (by simp [ptcells]; omega)]
      have : (k + 1) * 4 + j - (ptcells g.1 g.2.1 g.2.2).toList.length = k * 4 + j := by simp [ptcells]; omega
      rw [this]
      exact ih k (by simpa using hk)
theorem ptCells_one (hs : List HP) : ∀ u ∈ ptCells hs, u.oneCell' = true := fun u hu => by
  simp only [ptCells, List.mem_flatMap] at hu
  obtain ⟨h, _, hu⟩ := hu
  simp [ptcells] at hu
  rcases hu with rfl | rfl | rfl | rfl <;> rfl
theorem el_pt : Elem Try.prog 48 (.agg (ptcells ⟨0, 0, 0, []⟩ none 0)) 4 48 := ⟨by kernel_rfl, rfl, by decide⟩
theorem pt_wide : Wide Try.prog 48 4 := ⟨⟨_, Try.underlying48, rfl⟩, by kernel_rfl⟩
def Pt.wf (p : Pt) : Prop := (-9223372036854775808 ≤ p.k ∧ p.k ≤ 9223372036854775807) ∧ (-9223372036854775808 ≤ p.tag ∧ p.tag ≤ 9223372036854775807) ∧ (-9223372036854775808 ≤ p.v ∧ p.v ≤ 9223372036854775807) ∧ p.b.length ≤ 140737488351232
/-- A script that lies in a world, and whose texts lie there. -/
def PtsRd (w : World) (A : Option Addr) (hs : List HP) : Prop := RdN w 4 A hs.length (ptCells hs) ∧ ∀ h ∈ hs, Rd w h.2.1 h.1.b.length (u8s h.1.b) ∧ h.1.wf
theorem OwnFs.turnW {w w' : World} {base base2 n n2 c c2 g : Nat} {A A2 : Option Addr} {hs : List Held} {cs : Array Value} {ys : List Value} (h : OwnFs w base A n c hs) (hb : Blk w g 81 cs) (h2 : w.ownsRow base2 29 4 (.slice A2 n2 c2) n2 ys)
    (hA : ∀ r ∈ blkOf A, r ∉ blkOf A2) (ht : Turn (g :: blkOf A2) w w') : OwnFs w' base A n c hs := by
  refine h.turn ht (fun r hr hc => ?_) (fun f hf r hr hc => ?_)
  · rcases List.mem_cons.1 hc with rfl | hc
    · exact blk_off h.1 hb (by decide) (own_blkOf hr)
    · exact hA r hr hc
  · rcases List.mem_cons.1 hc with rfl | hc
    · exact blk_off (h.2 f hf) hb (by decide) (own_blkOf hr)
    · exact own_apart8 (h.2 f hf) h2 r hr hc
theorem add_own {w1 w5 : World} {base g n c n' c' : Nat} {A A' : Option Addr} {hs hs' : List Held} {cs : Array Value} {f : Fld} {Af : Option Addr} {cf : Nat} (h : OwnFs w1 base A n c hs) (hb : Blk w1 g 81 cs) (ht : Turn (g :: blkOf A) w1 w5)
    (ho : w5.ownsRow base 29 4 (.slice A' n' c') n' (fsCells hs')) (hh : hs' = hs ∨ hs' = hs ++ [(f, Af, cf)]) (hf : w5.ownsRow base 5 1 (.slice Af f.bytes.length cf) f.bytes.length (u8s f.bytes)) : OwnFs w5 base A' n' c' hs' := by
  have h1 : ∀ x ∈ hs, w5.ownsRow base 5 1 (.slice x.2.1 x.1.bytes.length x.2.2) x.1.bytes.length (u8s x.1.bytes) := fun x hx => ht.own (h.2 x hx) fun r hr hc => by
    rcases List.mem_cons.1 hc with rfl | hc
    · exact blk_off (h.2 x hx) hb (by decide) hr
    · exact own_apart8 (h.2 x hx) h.1 r (by rw [blkOf_own hr]; simp) hc
  refine ⟨ho, fun x hx => ?_⟩
  rcases hh with rfl | rfl
  · exact h1 x hx
  · rcases List.mem_append.1 hx with hx | hx
    · exact h1 x hx
    · rw [List.mem_singleton.1 hx]
      exact hf
section
variable {w : World} {ops : Array Oper}
theorem wpP_append {rest : List Oper} {o : Oper} {a : Act} {Q : Exit → Act → World → Prop} (hgd : o.guard = none) (s x : Operand)
    (ho : o.op = .call { callee := .builtin .append, args := #[s, x], argTypes := #[44, 44] }) (base : Nat) (hbs : base ≤ w.heap.size)
    {A0 : Option Addr} {n0 c0 : Nat} {l : List HP} (hs : a.eval s = .slice A0 n0 c0) (hown : w.ownsRow base 48 4 (.slice A0 n0 c0) n0 (ptCells l))
    {A : Option Addr} {m c : Nat} {news : List HP} (hx : a.eval x = .slice A m c) (hr : RdN w 4 A m (ptCells news)) (hb : (l.length + news.length) * 48 ≤ 140737488355328)
    (h : ∀ A' n' c' w', Hid (n' = l.length + news.length) → w'.ownsRow base 48 4 (.slice A' n' c') n' (ptCells (l ++ news)) → Turn (blkOf A0) w w' → (∀ r ∈ blkOf A', r ∈ blkOf A0 ∨ w.heap.size ≤ r) → wpList Try.prog ops Q rest (a.put o.dst (.slice A' n' c')) w') :
    wpList Try.prog ops Q (o :: rest) a w := by
  have e1 : n0 = l.length := by have := hown.1; rw [ptCells_len] at this; omega
  have e2 : news.length = m := by have := hr.1; rw [ptCells_len] at this; omega
  refine wpL_append hgd s x 44 ho base 48 _ 4 48 Try.underlying44 el_pt _ n0 _ hs hown A m c _ hx hr (ptCells_one _) (n0 + m) (ptCells (l ++ news)) rfl (ptCells_app _ _).symm (by simp only [maxLen]; omega) (by rw [e1, ← e2]; exact hb) hbs ?_
  intro v' w' h2 h3 h4
  obtain ⟨A', c', rfl⟩ := own_slice h2
  refine h A' _ c' w' (Lib.hid (by omega)) h2 (grown_turn h3 fun r hr => .inl (by rw [blkOf_own hr]; simp)) (fun r hr => ?_)
  have hr' := own_blkOf (n := n0 + m) (c := c') hr
  rcases h4 with h4 | h4
  · rw [h4] at hr'
    exact .inl (by rw [blkOf_own hr']; simp)
  · rw [h4] at hr'
    injection hr' with hr'
    exact .inr (by omega)
end
section
variable {H : Type} {enc : TypeId × Value → H} {w : World} {base : Nat} {spare : Nat → Bool} {held : Bool}
set_option maxRecDepth 100000 in
theorem open_pt {fuel : Nat} {cs : List Value} {y : DataW H × List MemPlace} (h : DataW.trod enc Try.prog w base spare held fuel 48 cs = some y) (hs : Sz Try.prog 48 y.1) :
    ∃ p A c, cs = (ptcells p A c).toList ∧ p.wf ∧ Rd w A p.b.length (u8s p.b) := by
  obtain ⟨ys, n, _, rfl, hlen, hyl, hf⟩ := DataW.trod_struct Try.underlying48 h
  have hC : Try.prog.cellsOf 48 = 4 := by kernel_rfl
  have k0 : Try.prog.cellsOf 3 = 1 := by kernel_rfl
  have k2 : Try.prog.cellsOf 2 = 1 := by kernel_rfl
  have k3 : Try.prog.cellsOf 23 = 1 := by kernel_rfl
  rw [hC] at hlen
  match cs, hlen with
  | [c0, c1, c2, c3], _ =>
    match ys, hyl with
    | [y0, y1, y2, y3], _ =>
      have h0 : DataW.trod enc Try.prog w base spare held n 3 (List.take (Try.prog.cellsOf 3) [c0, c1, c2, c3]) = some y0 := hf 0 _ rfl
      have h1 : DataW.trod enc Try.prog w base spare held n 3 (List.take (Try.prog.cellsOf 3) [c1, c2, c3]) = some y1 := hf 1 _ rfl
      have h2 : DataW.trod enc Try.prog w base spare held n 2 (List.take (Try.prog.cellsOf 2) [c2, c3]) = some y2 := hf 2 _ rfl
      have h3 : DataW.trod enc Try.prog w base spare held n 23 (List.take (Try.prog.cellsOf 23) [c3]) = some y3 := hf 3 _ rfl
      have z3 : Sz Try.prog 23 y3.1 := sz_agg hs Try.underlying48 (j := 3) rfl rfl
      rw [k0] at h0 h1
      rw [k2] at h2
      rw [k3] at h3
      obtain ⟨a, e0, _, w0⟩ := DataW.trod_int Try.underlying3 h0
      obtain ⟨b, e1, _, w1⟩ := DataW.trod_int Try.underlying3 h1
      obtain ⟨m, e2, _, w2⟩ := DataW.trod_int Try.underlying2 h2
      obtain ⟨A, k, c, l, e3, hr, _, hk⟩ := open_bytes h3 z3
      simp at e0 e1 e2
      subst e0 e1 e2 e3
      simp [Lit.wf, IntKind.min, IntKind.max, IntKind.signed, IntKind.bits] at w0 w1 w2
      have hl : l.length = k := by have := hr.1; rw [u8s_len] at this; exact this
      subst hl
      exact ⟨⟨a, b, m, l⟩, A, c, rfl, ⟨by dsimp only; omega, by dsimp only; omega, by dsimp only; omega, hk⟩, hr⟩
set_option maxRecDepth 100000 in
theorem open_puts {fuel : Nat} {v : Value} {y : DataW H × List MemPlace} (h : DataW.trod enc Try.prog w base spare held fuel 44 [v] = some y) (hs : Sz Try.prog 44 y.1) :
    ∃ A c gs, v = .slice A gs.length c ∧ PtsRd w A gs ∧ gs.length * 48 ≤ 140737488351232 := by
  rcases open_slice Try.underlying44 h with ⟨hcs, _⟩ | ⟨x, n, c, m, k, D, Pl, hcs, _, hl, hm, hmm, rfl, hi⟩
  · simp at hcs
    exact ⟨none, 0, [], hcs, ⟨RdN.nil_ _ _ _, (fun h hh => by cases hh)⟩, by simp⟩
  · simp at hcs
    have hC : Try.prog.cellsOf 48 = 4 := by kernel_rfl
    have hB : Try.prog.bytesOf 48 = 48 := by kernel_rfl
    rw [hC] at hi
    obtain ⟨z1, z2⟩ := sz_slice hs Try.underlying44
    rw [hB] at z1
    simp only [List.length_map, List.length_range, reachBytes] at z1
    have hnm : n ≤ m := by rw [hmm]; split <;> omega
    obtain ⟨gs, hl2, hp⟩ := choose_list (α := HP) (p := fun i h => (∀ j u, (ptcells h.1 h.2.1 h.2.2).toList[j]? = some u → w.cell? ((x.add (i * 4)).add j) = some u) ∧ Rd w h.2.1 h.1.b.length (u8s h.1.b) ∧ h.1.wf) n fun i hin => by
      obtain ⟨cs, hc, ht⟩ := hi i (by omega)
      obtain ⟨_, hcl, hat⟩ := World.cells?_some hc
      obtain ⟨f, A, c2, rfl, hw, hr⟩ := open_pt ht (z2 (D i) (by simp; exact ⟨i, hin, rfl⟩))
      exact ⟨(f, A, c2), fun j u hu => by
        have hj : j < 4 := by have := (List.getElem?_eq_some_iff.1 hu).1; simpa [ptcells] using this
        rw [hat j hj]; exact hu, hr, hw⟩
    refine ⟨some x, c, gs, by rw [hl2]; exact hcs, ⟨⟨by rw [ptCells_len], fun h0 => ?_⟩, fun h hh => ?_⟩, by omega⟩
    · have h1 := (hp 0 gs[0] (List.getElem?_eq_getElem (by omega))).1 0 _ rfl
      obtain ⟨b, o, rfl⟩ := addr_spot (x := x) (by rw [Nat.zero_mul] at h1; exact h1)
      refine ⟨b, o, rfl, fun j u hu => ?_⟩
      have hj : j < n * 4 := by
        have := (List.getElem?_eq_some_iff.1 hu).1
        rw [ptCells_len] at this
        omega
      have hg : gs[j / 4]? = some gs[j / 4] := List.getElem?_eq_getElem (by omega)
      have h2 := ptCells_at gs (j / 4) (j % 4) _ hg (by omega)
      rw [show j / 4 * 4 + j % 4 = j by omega, hu] at h2
      have h3 := (hp (j / 4) _ hg).1 (j % 4) u h2.symm
      rw [addr_add, addr_add, show o + j / 4 * 4 + j % 4 = o + j by omega] at h3
      exact h3
    · obtain ⟨i, hi2⟩ := List.mem_iff_getElem?.1 hh
      exact (hp i h hi2).2
end
end Go.Proofs.Ytcekdfhbbfednaa
