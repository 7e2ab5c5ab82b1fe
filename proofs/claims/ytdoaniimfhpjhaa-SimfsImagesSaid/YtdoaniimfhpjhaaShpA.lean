/-
  Files of the call's own whose bytes may be written over: shapes.
-/
import Derived.Test.YtdoaniimfhpjhaaLsD
import Derived.OneCell
namespace Go.Proofs.Ytdoaniimfhpjhaa
open Go.RowKit
set_option linter.unusedVariables false
set_option linter.unusedSimpArgs false
open Go.Maps
def U8v (xs : List Value) : Prop := ∀ v ∈ xs, ∃ x : Int, v = .int .u8 x
structure Sp where
  name : ByteArray
  m : Nat
  B : Option Addr
  c : Nat
  safe : Int
def Sp.row (s : Sp) : Value := .slice s.B s.m s.c
def sp1 (s : Sp) : List Value := [.string s.name, .slice s.B s.m s.c, .int .i64 s.safe]
def spC (S : List Sp) : List Value := S.flatMap sp1
theorem spC_cons (s : Sp) (S : List Sp) : spC (s :: S) = sp1 s ++ spC S := by simp [spC]
theorem spC_len (S : List Sp) : (spC S).length = S.length * 3 := by
  induction S with
  | nil => rfl
  | cons s S ih => rw [spC_cons, List.length_append, ih, List.length_cons]; simp [sp1]; omega
theorem spC_at (S : List Sp) : ∀ (k j : Nat) (s : Sp), S[k]? = some s → j < 3 → (spC S)[k * 3 + j]? = (sp1 s)[j]? := by
  induction S with
  | nil => intro k j s h; simp at h
  | cons t S ih =>
    intro k j s h hj
    rw [spC_cons]
    cases k with
    | zero =>
      simp at h
      subst h
      rw [List.getElem?_append_left (by simp [sp1]; omega), Nat.zero_mul, Nat.zero_add]
    | succ k =>
      rw [List.getElem?_append_right (by simp [sp1]; omega)]
      have e : (k + 1) * 3 + j - (sp1 t).length = k * 3 + j := by simp [sp1]; omega
      rw [e]
      exact ih k j s (by simpa using h) hj
theorem spC_set (S : List Sp) : ∀ (k i : Nat) (s s' : Sp) (v : Value), S[k]? = some s → i < 3 → (sp1 s).set i v = sp1 s' → (spC S).set (k * 3 + i) v = spC (S.set k s') := by
  induction S with
  | nil => intro k i s s' v h; simp at h
  | cons t S ih =>
    intro k i s s' v h hi hs
    cases k with
    | zero =>
      simp at h
      subst h
      rw [List.set_cons_zero, spC_cons, spC_cons, Nat.zero_mul, Nat.zero_add, List.set_append_left _ _ (by simp [sp1]; omega), hs]
    | succ k =>
      rw [List.set_cons_succ, spC_cons, spC_cons, List.set_append_right _ _ (by simp [sp1]; omega)]
      have e : (k + 1) * 3 + i - (sp1 t).length = k * 3 + i := by simp [sp1]; omega
      rw [e, ih k i s s' v (by simpa using h) hi hs]
theorem own_setN {w : World} {base g n m c s : Nat} {e : TypeId} {xs : List Value} {v : Value} (h : w.ownsRow base e s (.slice (some ⟨g, 0, none⟩) n c) m xs) (k : Nat) : (w.setCell ⟨g, k, none⟩ v).ownsRow base e s (.slice (some ⟨g, 0, none⟩) n c) m (xs.set k v) := by
  refine ⟨by rw [List.length_set]; exact h.1, ?_⟩
  rcases h.2 with ⟨hv, _⟩ | ⟨g2, cap, cur, hv, h1, h2, h3, h4, h5, h6⟩
  · cases hv
  · injection hv with e1 e2 e3
    injection e1 with e1
    injection e1 with e1
    subst e1 e2 e3
    refine .inr ⟨g, c, cur.setIfInBounds k v, rfl, h1, BlkS h2, h3, h4, by simpa using h5, ?_⟩
    rw [Array.toList_setIfInBounds, List.take_set, h6]
theorem own_some {w : World} {base n c s : Nat} {e : TypeId} {xs : List Value} {A : Option Addr} (h : w.ownsRow base e s (.slice A n c) n xs) (hn : 0 < n) : ∃ g, A = some ⟨g, 0, none⟩ ∧ base ≤ g ∧ (∀ k, w.frozen? ⟨g, k, none⟩ = false) := by
  rcases h.2 with ⟨hv, h0⟩ | ⟨g, cap, cur, hv, h1, h2, _⟩
  · omega
  · injection hv with e1 _ _
    exact ⟨g, e1, h1, fun k => Blk.frozen h2 k⟩
structure Shp (w : World) (base : Nat) (A : Option Addr) (n c : Nat) (S : List Sp) : Prop where
  row : w.ownsRow base 49 3 (.slice A n c) n (spC S)
  el : ∀ s ∈ S, ∃ xs, w.ownsRow base 5 1 (.slice s.B s.m s.c) s.m xs ∧ U8v xs
def spOf (h : HV) : Sp := ⟨h.1.name, h.1.data.length, h.2.1, h.2.2, h.1.safe⟩
theorem u8v_u8s (l : List UInt8) : U8v (u8s l) := fun v hv => by
  unfold u8s at hv
  obtain ⟨x, _, rfl⟩ := List.mem_map.1 hv
  exact ⟨_, rfl⟩
theorem U8v.set {xs : List Value} (h : U8v xs) (k : Nat) (x : Int) : U8v (xs.set k (.int .u8 x)) := fun v hv => by
  rcases List.mem_or_eq_of_mem_set hv with h1 | h1
  · exact h v h1
  · exact ⟨x, h1⟩
theorem Shp.of {w : World} {base : Nat} {A : Option Addr} {n c : Nat} {hs : List HV} (h : OwnFl w base A n c hs) : Shp w base A n c (hs.map spOf) where
  row := by
    have e : spC (hs.map spOf) = flCells hs := by
      unfold spC flCells
      rw [List.flatMap_map]
      rfl
    rw [e]
    exact h.1
  el := fun s hs' => by
    obtain ⟨x, hx, rfl⟩ := List.mem_map.1 hs'
    exact ⟨_, h.2 x hx, u8v_u8s _⟩
theorem Shp.len {w : World} {base : Nat} {A : Option Addr} {n c : Nat} {S : List Sp} (h : Shp w base A n c S) : S.length = n := by
  have := h.row.1
  rw [spC_len] at this
  omega
theorem Shp.at_ {w : World} {base : Nat} {A : Option Addr} {n c k : Nat} {S : List Sp} (h : Shp w base A n c S) (hk : k < n) :
    ∃ ba s, A = some ⟨ba, 0, none⟩ ∧ S[k]? = some s ∧ w.cell? ⟨ba, k * 3, none⟩ = some (.string s.name) ∧ w.cell? ⟨ba, k * 3 + 1, none⟩ = some (.slice s.B s.m s.c) ∧ (∀ j, w.frozen? ⟨ba, j, none⟩ = false) ∧ base ≤ ba := by
  obtain ⟨ba, hA, hb, hf⟩ := own_some h.row (by omega)
  have hl := h.len
  have hs : S[k]? = some S[k] := List.getElem?_eq_getElem (by omega)
  have h1 := RdN.of_own h.row
  obtain ⟨b, o, e, hc⟩ := h1.2 (by omega)
  rw [hA] at e
  injection e with e
  injection e with e1 e2
  subst e1 e2
  refine ⟨ba, S[k], hA, hs, ?_, ?_, hf, hb⟩
  · have := hc (k * 3 + 0) (.string S[k].name) (by rw [spC_at S k 0 _ hs (by omega)]; rfl)
    simpa using this
  · have := hc (k * 3 + 1) (.slice S[k].B S[k].m S[k].c) (by rw [spC_at S k 1 _ hs (by omega)]; rfl)
    simpa using this
theorem Shp.byte {w : World} {base : Nat} {A : Option Addr} {n c k j : Nat} {S : List Sp} {s : Sp} (h : Shp w base A n c S) (hk : S[k]? = some s) (hj : j < s.m) :
    ∃ g x, s.B = some ⟨g, 0, none⟩ ∧ w.cell? ⟨g, j, none⟩ = some (.int .u8 x) ∧ w.frozen? ⟨g, j, none⟩ = false ∧ base ≤ g := by
  obtain ⟨xs, ho, hu⟩ := h.el s (List.mem_of_getElem? hk)
  obtain ⟨g, hB, hb, hf⟩ := own_some ho (by omega)
  have h1 := Rd.of_own ho
  have hl := h1.1
  obtain ⟨b, o, e, hc⟩ := h1.2 (by omega)
  rw [hB] at e
  injection e with e
  injection e with e1 e2
  subst e1 e2
  have hx : xs[j]? = some xs[j] := List.getElem?_eq_getElem (by omega)
  obtain ⟨x, hxe⟩ := hu _ (List.mem_of_getElem? hx)
  have := hc j _ hx
  rw [hxe] at this
  exact ⟨g, x, hB, by simpa using this, hf j, hb⟩
theorem Shp.setA {w : World} {base : Nat} {ba n c k i : Nat} {S : List Sp} {s s' : Sp} {v : Value} (h : Shp w base (some ⟨ba, 0, none⟩) n c S) (hk : S[k]? = some s) (hi : i < 3) (hs : (sp1 s).set i v = sp1 s')
    (hel : ∃ xs, w.ownsRow base 5 1 (.slice s'.B s'.m s'.c) s'.m xs ∧ U8v xs) : Shp (w.setCell ⟨ba, k * 3 + i, none⟩ v) base (some ⟨ba, 0, none⟩) n c (S.set k s') where
  row := by
    rw [← spC_set S k i s s' v hk hi hs]
    exact own_setN h.row _
  el := fun t ht => by
    have hx : ∃ xs, w.ownsRow base 5 1 (.slice t.B t.m t.c) t.m xs ∧ U8v xs := by
      rcases List.mem_or_eq_of_mem_set ht with h1 | h1
      · exact h.el t h1
      · subst h1; exact hel
    obtain ⟨xs, ho, hu⟩ := hx
    refine ⟨xs, ownsRow_setCell_other ho (fun hc => ?_) _, hu⟩
    rcases own_ne2 ho h.row (by decide) with h1 | h1
    · rw [h1] at hc; cases hc
    · exact h1 hc
theorem Shp.setB {w : World} {base : Nat} {A : Option Addr} {n c k g : Nat} {S : List Sp} {s : Sp} (h : Shp w base A n c S) (hk : S[k]? = some s) (hB : s.B = some ⟨g, 0, none⟩) (j : Nat) (x : Int) :
    Shp (w.setCell ⟨g, j, none⟩ (.int .u8 x)) base A n c S where
  row := by
    obtain ⟨xs, ho, hu⟩ := h.el s (List.mem_of_getElem? hk)
    rw [hB] at ho
    refine ownsRow_setCell_other h.row (fun hc => ?_) _
    rcases own_ne2 h.row ho (by decide) with h1 | h1
    · rw [h1] at hc; cases hc
    · exact h1 hc
  el := fun t ht => by
    obtain ⟨xs, ho, hu⟩ := h.el t ht
    by_cases hg : (Value.slice t.B t.m t.c).ownBlock = some g
    · have hB2 : t.B = some ⟨g, 0, none⟩ := by
        rcases ho.2 with ⟨hv, _⟩ | ⟨g2, cap, cur, hv, _⟩
        · rw [hv] at hg; cases hg
        · injection hv with e1 _ _
          rw [e1] at hg ⊢
          simp [Value.ownBlock] at hg
          rw [hg]
      rw [hB2] at ho ⊢
      exact ⟨_, own_setN ho j, hu.set j x⟩
    · exact ⟨xs, ownsRow_setCell_other ho hg _, hu⟩
/-- Blocks from lo on that w6 has are as w6 has them. -/
def Kp (lo : Nat) (w6 w' : World) : Prop := w6.heap.size ≤ w'.heap.size ∧ ∀ k, lo ≤ k → k < w6.heap.size → w'.heap[k]? = w6.heap[k]?
theorem Kp.own {lo : Nat} {w6 w' : World} {base s n : Nat} {e : TypeId} {v : Value} {xs : List Value} (hk : Kp lo w6 w') (h : w6.ownsRow base e s v n xs) (hb : lo ≤ base) : w'.ownsRow base e s v n xs :=
  own_heap h fun g hg => hk.2 g (by have := (h.lt g hg).1; omega) (h.lt g hg).2
theorem Kp.turn {lo : Nat} {w6 w w' : World} {F : List Nat} (hk : Kp lo w6 w) (ht : Turn F w w') (hF : ∀ r ∈ F, r < lo ∨ w6.heap.size ≤ r) : Kp lo w6 w' :=
  ⟨Nat.le_trans hk.1 ht.size, fun k h1 h2 => (ht.block k (Nat.lt_of_lt_of_le h2 hk.1) (fun hc => by have := hF k hc; omega)).trans (hk.2 k h1 h2)⟩
theorem Kp.fl {lo : Nat} {w6 w' : World} {base n c : Nat} {A : Option Addr} {hs : List HV} (hk : Kp lo w6 w') (h : OwnFl w6 base A n c hs) (hb : lo ≤ base) : OwnFl w' base A n c hs :=
  ⟨hk.own h.1 hb, fun g hg => hk.own (h.2 g hg) hb⟩
end Go.Proofs.Ytdoaniimfhpjhaa
