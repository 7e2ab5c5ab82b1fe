/-
  Fields of the call's own whose texts are written over and appended to: each in its own block.
-/
import Derived.Test.YtcekdfhbbfednaaDecY
import Derived.Test.YtcekdfhbbfednaaTurnC
namespace Go.Proofs.Ytcekdfhbbfednaa
open Go.RowKit
set_option linter.unusedVariables false
set_option linter.unusedSimpArgs false
theorem own_setG {w : World} {base n c b j s : Nat} {e : TypeId} {xs : List Value} {u : Value} (h : w.ownsRow base e s (.slice (some ⟨b, 0, none⟩) n c) n xs) (hj : j < n * s) : (w.setCell ⟨b, j, none⟩ u).ownsRow base e s (.slice (some ⟨b, 0, none⟩) n c) n (xs.set j u) := by
  obtain ⟨h1, h2⟩ := h
  refine ⟨by simpa using h1, .inr ?_⟩
  rcases h2 with ⟨hv, _⟩ | ⟨g, cap, cur, hv, hb, hg, hn, hm, hs, ht⟩
  · cases hv
  · injection hv with e1 e2 e3
    injection e1 with e1
    injection e1 with e1
    subst e1 e3
    refine ⟨b, c, cur.setIfInBounds j u, rfl, hb, ?_, hn, hm, by simpa using hs, ?_⟩
    · simp [World.setCell, Array.getElem?_modify, hg]
    · rw [Array.toList_setIfInBounds, List.take_set, ht]
theorem fsCells_map (hs : List Held) : fsCells hs = (hs.map fun h => (fcells h.1 h.2.1 h.2.2).toList).flatten := by simp [fsCells, List.flatMap]
theorem fsCells_same {hs : List Held} {i : Nat} {h h' : Held} (hi : hs[i]? = some h) (he : fcells h'.1 h'.2.1 h'.2.2 = fcells h.1 h.2.1 h.2.2) : fsCells (hs.set i h') = fsCells hs := by
  rw [fsCells_map, fsCells_map, List.map_set, he]
  congr 1
  have : (hs.map fun h => (fcells h.1 h.2.1 h.2.2).toList)[i]? = some (fcells h.1 h.2.1 h.2.2).toList := by rw [List.getElem?_map, hi]; rfl
  obtain ⟨hl, he2⟩ := List.getElem?_eq_some_iff.1 this
  rw [← he2]
  exact List.set_getElem_self hl
theorem fsCells_slice {hs : List Held} {i : Nat} {f f' : Fld} {A1 A2 : Option Addr} {c1 c2 : Nat} (hi : hs[i]? = some (f, A1, c1)) (h1 : f'.tag = f.tag) (h2 : f'.text = f.text) (h3 : f'.num = f.num) :
    fsCells (hs.set i (f', A2, c2)) = (fsCells hs).set (i * 4 + 3) (.slice A2 f'.bytes.length c2) := by
  have hlt := (List.getElem?_eq_some_iff.1 hi).1
  apply List.ext_getElem?
  intro j
  by_cases hj : j < hs.length * 4
  · have hk : j / 4 < hs.length := by omega
    have ej : j / 4 * 4 + j % 4 = j := by omega
    have hg : hs[j / 4]? = some hs[j / 4] := List.getElem?_eq_getElem hk
    have l2 := fsCells_at hs (j / 4) (j % 4) _ hg (by omega)
    rw [ej] at l2
    by_cases hji : j / 4 = i
    · subst hji
      have l1 := fsCells_at (hs.set (j / 4) (f', A2, c2)) (j / 4) (j % 4) (f', A2, c2) (by rw [List.getElem?_set_self hk]) (by omega)
      rw [ej] at l1
      rw [l1]
      rw [hg] at hi
      injection hi with hi
      rw [hi] at l2
      by_cases h4 : j % 4 = 3
      · rw [show j / 4 * 4 + 3 = j by omega, List.getElem?_set_self (by rw [fsCells_len]; omega), h4]
        rfl
      · rw [List.getElem?_set_ne (by omega), l2]
        have h5 : j % 4 = 0 ∨ j % 4 = 1 ∨ j % 4 = 2 := by omega
        rcases h5 with h5 | h5 | h5 <;> rw [h5] <;> simp [fcells, h1, h2, h3]
    · have l1 := fsCells_at (hs.set i (f', A2, c2)) (j / 4) (j % 4) hs[j / 4] (by rw [List.getElem?_set_ne (fun h => hji h.symm)]; exact hg) (by omega)
      rw [ej] at l1
      rw [l1, List.getElem?_set_ne (by omega), l2]
  · rw [List.getElem?_eq_none (by rw [fsCells_len]; simp; omega), List.getElem?_eq_none (by rw [List.length_set, fsCells_len]; omega)]
theorem u8s_set (l : List UInt8) (j : Nat) (v : UInt8) : u8s (l.set j v) = (u8s l).set j (.int .u8 (v.toNat : Nat)) := by simp [u8s, List.map_set]
theorem apart_ne {hs : List Held} (h : Apart hs) {i k : Nat} {a b : Held} (hi : hs[i]? = some a) (hk : hs[k]? = some b) (hne : i ≠ k) : ∀ r ∈ blkOf a.2.1, r ∉ blkOf b.2.1 := by
  obtain ⟨h1, e1⟩ := List.getElem?_eq_some_iff.1 hi
  obtain ⟨h2, e2⟩ := List.getElem?_eq_some_iff.1 hk
  have hp := List.pairwise_iff_getElem.1 h
  intro r hr hc
  rcases Nat.lt_or_gt_of_ne hne with hlt | hlt
  · have := hp i k h1 h2 hlt r (by rw [e1]; exact hr)
    rw [e2] at this
    exact this hc
  · have := hp k i h2 h1 hlt r (by rw [e2]; exact hc)
    rw [e1] at this
    exact this hr
theorem apart_set {hs : List Held} (h : Apart hs) {i : Nat} {x : Held} (hx : ∀ k b, hs[k]? = some b → k ≠ i → ∀ r ∈ blkOf x.2.1, r ∉ blkOf b.2.1) : Apart (hs.set i x) := by
  refine List.pairwise_iff_getElem.2 fun a b ha hb hab => ?_
  rw [List.length_set] at ha hb
  have ga : hs[a]? = some hs[a] := List.getElem?_eq_getElem ha
  have gb : hs[b]? = some hs[b] := List.getElem?_eq_getElem hb
  by_cases h1 : i = a
  · subst h1
    rw [List.getElem_set_self, List.getElem_set_ne (by omega)]
    exact hx b _ gb (by omega)
  · by_cases h2 : i = b
    · subst h2
      rw [List.getElem_set_self, List.getElem_set_ne (by omega)]
      exact fun r hr hc => hx a _ ga (by omega) r hc hr
    · rw [List.getElem_set_ne h1, List.getElem_set_ne h2]
      exact List.pairwise_iff_getElem.1 h a b ha hb hab
/-- One byte of one text. -/
theorem own_byte {w : World} {base n c : Nat} {A : Option Addr} {hs : List Held} (h : OwnFs w base A n c hs) (ha : Apart hs) {i j b c1 : Nat} {f : Fld} {v : UInt8} (hi : hs[i]? = some (f, some ⟨b, 0, none⟩, c1)) (hj : j < f.bytes.length) :
    OwnFs (w.setCell ⟨b, j, none⟩ (.int .u8 (v.toNat : Nat))) base A n c (hs.set i (⟨f.tag, f.text, f.num, f.bytes.set j v⟩, some ⟨b, 0, none⟩, c1)) ∧ Apart (hs.set i (⟨f.tag, f.text, f.num, f.bytes.set j v⟩, some ⟨b, 0, none⟩, c1)) := by
  have hm := List.mem_of_getElem? hi
  have ho := h.2 _ hm
  have hbA : b ∉ blkOf A := own_apart8 ho h.1 b (by simp [blkOf])
  refine ⟨⟨?_, fun x hx => ?_⟩, apart_set ha fun k y hk hne r hr hc => apart_ne ha hi hk (fun e => hne e.symm) r hr hc⟩
  · rw [fsCells_same hi (by simp [fcells])]
    exact own_put h.1 hbA
  · obtain ⟨k, hk⟩ := List.mem_iff_getElem?.1 hx
    by_cases hki : i = k
    · subst hki
      rw [List.getElem?_set_self (List.getElem?_eq_some_iff.1 hi).1] at hk
      injection hk with hk
      subst hk
      dsimp only
      rw [u8s_set, List.length_set]
      exact own_set1 ho hj
    · rw [List.getElem?_set_ne hki] at hk
      exact (Turn.cell (F := [b]) (p := ⟨b, j, none⟩) (by simp)).own (h.2 x (List.mem_of_getElem? hk)) fun r hr hc => by
        rw [List.mem_singleton.1 hc] at hr
        exact apart_ne ha hi hk hki b (by simp [blkOf]) (by rw [blkOf_own hr]; simp)
/-- A text that has grown. -/
theorem own_grow {w w' : World} {base g n c : Nat} {hs : List Held} (h : OwnFs w base (some ⟨g, 0, none⟩) n c hs) (ha : Apart hs) {i c1 c2 : Nat} {f : Fld} {A1 A2 : Option Addr} {l : List UInt8} (hi : hs[i]? = some (f, A1, c1)) (ht : Turn (blkOf A1) w w')
    (h2 : w'.ownsRow base 5 1 (.slice A2 l.length c2) l.length (u8s l)) (hn : ∀ r ∈ blkOf A2, r ∈ blkOf A1 ∨ w.heap.size ≤ r) :
    OwnFs (w'.setCell ⟨g, i * 4 + 3, none⟩ (.slice A2 l.length c2)) base (some ⟨g, 0, none⟩) n c (hs.set i (⟨f.tag, f.text, f.num, l⟩, A2, c2)) ∧ Apart (hs.set i (⟨f.tag, f.text, f.num, l⟩, A2, c2)) := by
  have hm := List.mem_of_getElem? hi
  have ho := h.2 _ hm
  have hlt := (List.getElem?_eq_some_iff.1 hi).1
  have hln : hs.length = n := by have := h.1.1; rw [fsCells_len] at this; omega
  have hrow : w'.ownsRow base 29 4 (.slice (some ⟨g, 0, none⟩) n c) n (fsCells hs) := ht.own h.1 fun r hr hc => own_apart8 ho h.1 r hc (by rw [blkOf_own hr]; simp)
  have hoth : ∀ k y, hs[k]? = some y → k ≠ i → w'.ownsRow base 5 1 (.slice y.2.1 y.1.bytes.length y.2.2) y.1.bytes.length (u8s y.1.bytes) := fun k y hk hne =>
    ht.own (h.2 y (List.mem_of_getElem? hk)) fun r hr hc => apart_ne ha hi hk (fun e => hne e.symm) r hc (by rw [blkOf_own hr]; simp)
  have hput : ∀ {A3 : Option Addr} {n3 c3 : Nat} {xs : List Value}, w'.ownsRow base 5 1 (.slice A3 n3 c3) n3 xs → (w'.setCell ⟨g, i * 4 + 3, none⟩ (.slice A2 l.length c2)).ownsRow base 5 1 (.slice A3 n3 c3) n3 xs := fun h3 =>
    own_put h3 fun hc => own_apart8 h3 hrow g hc (by simp [blkOf])
  refine ⟨⟨?_, fun x hx => ?_⟩, apart_set ha fun k y hk hne r hr hc => ?_⟩
  · have e5 := fsCells_slice (f' := ⟨f.tag, f.text, f.num, l⟩) (A2 := A2) (c2 := c2) hi rfl rfl rfl
    rw [e5]
    exact own_setG hrow (by omega)
  · obtain ⟨k, hk⟩ := List.mem_iff_getElem?.1 hx
    by_cases hki : i = k
    · subst hki
      rw [List.getElem?_set_self hlt] at hk
      injection hk with hk
      subst hk
      exact hput h2
    · rw [List.getElem?_set_ne hki] at hk
      exact hput (hoth k x hk (fun e => hki e.symm))
  · rcases hn r hr with h3 | h3
    · exact apart_ne ha hi hk (fun e => hne e.symm) r h3 hc
    · have := h.new.2 y (List.mem_of_getElem? hk) r hc
      omega
section
variable {w : World} {ops : Array Oper}
theorem wpBd_append {rest : List Oper} {o : Oper} {a : Act} {Q : Exit → Act → World → Prop} (hgd : o.guard = none) (s x : Operand)
    (ho : o.op = .call { callee := .builtin .append, args := #[s, x], argTypes := #[23, 23] }) (base : Nat) (hbs : base ≤ w.heap.size)
    {A0 : Option Addr} {c0 : Nat} {l : List UInt8} (hs : a.eval s = .slice A0 l.length c0) (hown : w.ownsRow base 5 1 (.slice A0 l.length c0) l.length (u8s l))
    {A : Option Addr} {c : Nat} {v : UInt8} (hx : a.eval x = .slice A 1 c) (hr : Rd w A 1 (u8s [v])) (hb : l.length + 1 ≤ 140737488355328)
    (h : ∀ A' c' w', w'.ownsRow base 5 1 (.slice A' (l ++ [v]).length c') (l ++ [v]).length (u8s (l ++ [v])) → Turn (blkOf A0) w w' → (∀ r ∈ blkOf A', r ∈ blkOf A0 ∨ w.heap.size ≤ r) → wpList Try.prog ops Q rest (a.put o.dst (.slice A' (l ++ [v]).length c')) w') :
    wpList Try.prog ops Q (o :: rest) a w := by
  have e3 : (l ++ [v]).length = l.length + 1 := by simp
  rw [e3] at h
  refine wpL_append hgd s x 23 ho base 5 _ 1 1 Try.underlying23 el_u8 _ l.length _ hs hown A 1 c _ hx hr.toN (one_u8 _) (l.length + 1) (u8s (l ++ [v])) rfl (u8s_app _ _).symm (by simp only [maxLen]; omega) (by omega) hbs ?_
  intro v' w' h2 h3 h4
  obtain ⟨A', c', rfl⟩ := own_slice h2
  refine h A' c' w' h2 (grown_turn h3 fun r hr => .inl (by rw [blkOf_own hr]; simp)) (fun r hr => ?_)
  have hr' := own_blkOf (n := l.length + 1) (c := c') hr
  rcases h4 with h4 | h4
  · rw [h4] at hr'
    exact .inl (by rw [blkOf_own hr']; simp)
  · rw [h4] at hr'
    injection hr' with hr'
    exact .inr (by omega)
end
end Go.Proofs.Ytcekdfhbbfednaa
