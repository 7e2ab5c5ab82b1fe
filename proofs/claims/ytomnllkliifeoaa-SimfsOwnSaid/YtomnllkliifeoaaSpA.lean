/-
  Files of the call's own whose bytes may be written over: shapes, and what stays while they are.
-/
import Derived.Test.YtomnllkliifeoaaLsH
import Derived.Test.YtomnllkliifeoaaNilF
import Derived.OneCell
namespace Go.Proofs.Ytomnllkliifeoaa
open Go.RowKit
set_option linter.unusedVariables false
set_option linter.unusedSimpArgs false
open Go.Maps
theorem img_small' {d : Dk} (hI : DkInv d) : ∀ f ∈ imgL d, f.data.length ≤ 67108864 := fun f hf => by
  have h1 : f.data.length ≤ sumV (imgL d) := le_sum_mem (List.mem_map.2 ⟨f, hf, rfl⟩)
  have h2 : d.used = (sumV (imgL d) : Nat) := by rw [sumV_img]; exact hI.ok.1
  have := hI.ok.2.1; have := hI.ok.2.2; omega
def U8v (xs : List Value) : Prop := ∀ v ∈ xs, ∃ x : Int, v = .int .u8 x
structure Sp where
  name : ByteArray
  m : Nat
  B : Option Addr
  c : Nat
  safe : Int
def Sp.row (s : Sp) : Value := .slice s.B s.m s.c
def sp1 (s : Sp) : List Value := [.string s.name, .slice s.B s.m s.c, .int .i64 s.safe]
def spC (S : List Sp) : List Value := S.flatMap sp1
theorem spC_cons (s : Sp) (S : List Sp) : spC (s :: S) = sp1 s ++ spC S := by simp [spC]
theorem spC_len (S : List Sp) : (spC S).length = S.length * 3 := by
  induction S with
  | nil => rfl
  | cons s S ih => rw [spC_cons, List.length_append, ih, List.length_cons]; simp [sp1]; omega
theorem spC_at (S : List Sp) : ∀ (k j : Nat) (s : Sp), S[k]? = some s → j < 3 → (spC S)[k * 3 + j]? = (sp1 s)[j]? := by
  induction S with
  | nil => intro k j s h; simp at h
  | cons t S ih =>
    intro k j s h hj
    rw [spC_cons]
    cases k with
    | zero =>
      simp at h
      subst h
      rw [List.getElem?_append_left (by simp [sp1]; omega), Nat.zero_mul, Nat.zero_add]
    | succ k =>
      rw [List.getElem?_append_right (by simp [sp1]; omega)]
      have e : (k + 1) * 3 + j - (sp1 t).length = k * 3 + j := by simp [sp1]; omega
      rw [e]
      exact ih k j s (by simpa using h) hj
theorem spC_set (S : List Sp) : ∀ (k i : Nat) (s s' : Sp) (v : Value), S[k]? = some s → i < 3 → (sp1 s).set i v = sp1 s' → (spC S).set (k * 3 + i) v = spC (S.set k s') := by
  induction S with
  | nil => intro k i s s' v h; simp at h
  | cons t S ih =>
    intro k i s s' v h hi hs
    cases k with
    | zero =>
      simp at h
      subst h
      rw [List.set_cons_zero, spC_cons, spC_cons, Nat.zero_mul, Nat.zero_add, List.set_append_left _ _ (by simp [sp1]; omega), hs]
    | succ k =>
      rw [List.set_cons_succ, spC_cons, spC_cons, List.set_append_right _ _ (by simp [sp1]; omega)]
      have e : (k + 1) * 3 + i - (sp1 t).length = k * 3 + i := by simp [sp1]; omega
      rw [e, ih k i s s' v (by simpa using h) hi hs]
theorem own_setN {w : World} {base g n m c s : Nat} {e : TypeId} {xs : List Value} {v : Value} (h : w.ownsRow base e s (.slice (some ⟨g, 0, none⟩) n c) m xs) (k : Nat) : (w.setCell ⟨g, k, none⟩ v).ownsRow base e s (.slice (some ⟨g, 0, none⟩) n c) m (xs.set k v) := by
  refine ⟨by rw [List.length_set]; exact h.1, ?_⟩
  rcases h.2 with ⟨hv, _⟩ | ⟨g2, cap, cur, hv, h1, h2, h3, h4, h5, h6⟩
  · cases hv
  · injection hv with e1 e2 e3
    injection e1 with e1
    injection e1 with e1
    subst e1 e2 e3
    refine .inr ⟨g, c, cur.setIfInBounds k v, rfl, h1, BlkS h2, h3, h4, by simpa using h5, ?_⟩
    rw [Array.toList_setIfInBounds, List.take_set, h6]
theorem own_some {w : World} {base n c s : Nat} {e : TypeId} {xs : List Value} {A : Option Addr} (h : w.ownsRow base e s (.slice A n c) n xs) (hn : 0 < n) : ∃ g, A = some ⟨g, 0, none⟩ ∧ base ≤ g ∧ (∀ k, w.frozen? ⟨g, k, none⟩ = false) := by
  rcases h.2 with ⟨hv, h0⟩ | ⟨g, cap, cur, hv, h1, h2, _⟩
  · omega
  · injection hv with e1 _ _
    exact ⟨g, e1, h1, fun k => Blk.frozen h2 k⟩
structure Shp (w : World) (base : Nat) (A : Option Addr) (n c : Nat) (S : List Sp) : Prop where
  row : w.ownsRow base 55 3 (.slice A n c) n (spC S)
  el : ∀ s ∈ S, ∃ xs, w.ownsRow base 5 1 (.slice s.B s.m s.c) s.m xs ∧ U8v xs
def spOf (h : HV) : Sp := ⟨h.1.name, h.1.data.length, h.2.1, h.2.2, h.1.safe⟩
theorem u8v_u8s (l : List UInt8) : U8v (u8s l) := fun v hv => by
  unfold u8s at hv
  obtain ⟨x, _, rfl⟩ := List.mem_map.1 hv
  exact ⟨_, rfl⟩
theorem U8v.set {xs : List Value} (h : U8v xs) (k : Nat) (x : Int) : U8v (xs.set k (.int .u8 x)) := fun v hv => by
  rcases List.mem_or_eq_of_mem_set hv with h1 | h1
  · exact h v h1
  · exact ⟨x, h1⟩
theorem Shp.of {w : World} {base : Nat} {A : Option Addr} {n c : Nat} {hs : List HV} (h : OwnFl w base A n c hs) : Shp w base A n c (hs.map spOf) where
  row := by
    have e : spC (hs.map spOf) = flCells hs := by
      unfold spC flCells
      rw [List.flatMap_map]
      rfl
    rw [e]
    exact h.1
  el := fun s hs' => by
    obtain ⟨x, hx, rfl⟩ := List.mem_map.1 hs'
    exact ⟨_, h.2 x hx, u8v_u8s _⟩
theorem Shp.len {w : World} {base : Nat} {A : Option Addr} {n c : Nat} {S : List Sp} (h : Shp w base A n c S) : S.length = n := by
  have := h.row.1
  rw [spC_len] at this
  omega
theorem Shp.at_ {w : World} {base : Nat} {A : Option Addr} {n c k : Nat} {S : List Sp} (h : Shp w base A n c S) (hk : k < n) :
    ∃ ba s, A = some ⟨ba, 0, none⟩ ∧ S[k]? = some s ∧ w.cell? ⟨ba, k * 3, none⟩ = some (.string s.name) ∧ w.cell? ⟨ba, k * 3 + 1, none⟩ = some (.slice s.B s.m s.c) ∧ (∀ j, w.frozen? ⟨ba, j, none⟩ = false) ∧ base ≤ ba := by
  obtain ⟨ba, hA, hb, hf⟩ := own_some h.row (by omega)
  have hl := h.len
  have hs : S[k]? = some S[k] := List.getElem?_eq_getElem (by omega)
  have h1 := RdN.of_own h.row
  obtain ⟨b, o, e, hc⟩ := h1.2 (by omega)
  rw [hA] at e
  injection e with e
  injection e with e1 e2
  subst e1 e2
  refine ⟨ba, S[k], hA, hs, ?_, ?_, hf, hb⟩
  · have := hc (k * 3 + 0) (.string S[k].name) (by rw [spC_at S k 0 _ hs (by omega)]; rfl)
    simpa using this
  · have := hc (k * 3 + 1) (.slice S[k].B S[k].m S[k].c) (by rw [spC_at S k 1 _ hs (by omega)]; rfl)
    simpa using this
theorem Shp.byte {w : World} {base : Nat} {A : Option Addr} {n c k j : Nat} {S : List Sp} {s : Sp} (h : Shp w base A n c S) (hk : S[k]? = some s) (hj : j < s.m) :
    ∃ g x, s.B = some ⟨g, 0, none⟩ ∧ w.cell? ⟨g, j, none⟩ = some (.int .u8 x) ∧ w.frozen? ⟨g, j, none⟩ = false ∧ base ≤ g := by
  obtain ⟨xs, ho, hu⟩ := h.el s (List.mem_of_getElem? hk)
  obtain ⟨g, hB, hb, hf⟩ := own_some ho (by omega)
  have h1 := Rd.of_own ho
  have hl := h1.1
  obtain ⟨b, o, e, hc⟩ := h1.2 (by omega)
  rw [hB] at e
  injection e with e
  injection e with e1 e2
  subst e1 e2
  have hx : xs[j]? = some xs[j] := List.getElem?_eq_getElem (by omega)
  obtain ⟨x, hxe⟩ := hu _ (List.mem_of_getElem? hx)
  have := hc j _ hx
  rw [hxe] at this
  exact ⟨g, x, hB, by simpa using this, hf j, hb⟩
theorem Shp.setA {w : World} {base : Nat} {ba n c k i : Nat} {S : List Sp} {s s' : Sp} {v : Value} (h : Shp w base (some ⟨ba, 0, none⟩) n c S) (hk : S[k]? = some s) (hi : i < 3) (hs : (sp1 s).set i v = sp1 s')
    (hel : ∃ xs, w.ownsRow base 5 1 (.slice s'.B s'.m s'.c) s'.m xs ∧ U8v xs) : Shp (w.setCell ⟨ba, k * 3 + i, none⟩ v) base (some ⟨ba, 0, none⟩) n c (S.set k s') where
  row := by
    rw [← spC_set S k i s s' v hk hi hs]
    exact own_setN h.row _
  el := fun t ht => by
    have hx : ∃ xs, w.ownsRow base 5 1 (.slice t.B t.m t.c) t.m xs ∧ U8v xs := by
      rcases List.mem_or_eq_of_mem_set ht with h1 | h1
      · exact h.el t h1
      · subst h1; exact hel
    obtain ⟨xs, ho, hu⟩ := hx
    refine ⟨xs, ownsRow_setCell_other ho (fun hc => ?_) _, hu⟩
    rcases own_ne2 ho h.row (by decide) with h1 | h1
    · rw [h1] at hc; cases hc
    · exact h1 hc
theorem Shp.setB {w : World} {base : Nat} {A : Option Addr} {n c k g : Nat} {S : List Sp} {s : Sp} (h : Shp w base A n c S) (hk : S[k]? = some s) (hB : s.B = some ⟨g, 0, none⟩) (j : Nat) (x : Int) :
    Shp (w.setCell ⟨g, j, none⟩ (.int .u8 x)) base A n c S where
  row := by
    obtain ⟨xs, ho, hu⟩ := h.el s (List.mem_of_getElem? hk)
    rw [hB] at ho
    refine ownsRow_setCell_other h.row (fun hc => ?_) _
    rcases own_ne2 h.row ho (by decide) with h1 | h1
    · rw [h1] at hc; cases hc
    · exact h1 hc
  el := fun t ht => by
    obtain ⟨xs, ho, hu⟩ := h.el t ht
    by_cases hg : (Value.slice t.B t.m t.c).ownBlock = some g
    · have hB2 : t.B = some ⟨g, 0, none⟩ := by
        rcases ho.2 with ⟨hv, _⟩ | ⟨g2, cap, cur, hv, _⟩
        · rw [hv] at hg; cases hg
        · injection hv with e1 _ _
          rw [e1] at hg ⊢
          simp [Value.ownBlock] at hg
          rw [hg]
      rw [hB2] at ho ⊢
      exact ⟨_, own_setN ho j, hu.set j x⟩
    · exact ⟨xs, ownsRow_setCell_other ho hg _, hu⟩
/-- Blocks from lo on that w6 has are as w6 has them. -/
def Kp (lo : Nat) (w6 w' : World) : Prop := w6.heap.size ≤ w'.heap.size ∧ ∀ k, lo ≤ k → k < w6.heap.size → w'.heap[k]? = w6.heap[k]?
theorem Kp.own {lo : Nat} {w6 w' : World} {base s n : Nat} {e : TypeId} {v : Value} {xs : List Value} (hk : Kp lo w6 w') (h : w6.ownsRow base e s v n xs) (hb : lo ≤ base) : w'.ownsRow base e s v n xs :=
  own_heap h fun g hg => hk.2 g (by have := (h.lt g hg).1; omega) (h.lt g hg).2
theorem Kp.turn {lo : Nat} {w6 w w' : World} {F : List Nat} (hk : Kp lo w6 w) (ht : Turn F w w') (hF : ∀ r ∈ F, r < lo ∨ w6.heap.size ≤ r) : Kp lo w6 w' :=
  ⟨Nat.le_trans hk.1 ht.size, fun k h1 h2 => (ht.block k (Nat.lt_of_lt_of_le h2 hk.1) (fun hc => by have := hF k hc; omega)).trans (hk.2 k h1 h2)⟩
theorem Kp.fl {lo : Nat} {w6 w' : World} {base n c : Nat} {A : Option Addr} {hs : List HV} (hk : Kp lo w6 w') (h : OwnFl w6 base A n c hs) (hb : lo ≤ base) : OwnFl w' base A n c hs :=
  ⟨hk.own h.1 hb, fun g hg => hk.own (h.2 g hg) hb⟩
structure Rst (W : World) (g b : Nat) (d : Dk) (D : DataW Value) (hs : List HF) (lo : Nat) (w6 : World) (An : Option Addr) (nn cn : Nat) (w : World) : Prop where
  fs : FsX W w g d b D hs
  kp : Kp lo w6 w
  ns : ∃ l : List ByteArray, l.length = nn ∧ w.ownsRow w6.heap.size 9 1 (.slice An nn cn) nn (l.map Value.string)
theorem Rst.turn {W : World} {g b : Nat} {d : Dk} {D : DataW Value} {hs : List HF} {l0 lo : Nat} {w6 : World} {An : Option Addr} {nn cn : Nat} {w w' : World} {F : List Nat} (h : Rst W g b d D hs lo w6 An nn cn w) (hb : ∀ r ∈ foot g b hs, r < l0) (hW : W.heap.size ≤ l0) (ht : Turn F w w')
    (hF : ∀ r ∈ F, l0 ≤ r ∧ (r < lo ∨ w6.heap.size ≤ r) ∧ (Value.slice An nn cn).ownBlock ≠ some r) : Rst W g b d D hs lo w6 An nn cn w' where
  fs := h.fs.keep ht (fun r hr hc => by have := (hF r hr).1; have := hb r hc; omega) (fun r hr => by have := (hF r hr).1; omega)
  kp := h.kp.turn ht fun r hr => (hF r hr).2.1
  ns := by
    obtain ⟨l, h1, h2⟩ := h.ns
    exact ⟨l, h1, ht.own h2 fun r hr hc => (hF r hc).2.2 hr⟩
def DisR (vs : List Value) : Prop := vs.Pairwise fun x y => ∀ r, x.ownBlock = some r → y.ownBlock = some r → False
def ZnR (lo hi : Nat) (vs : List Value) : Prop := ∀ v ∈ vs, ∀ r, v.ownBlock = some r → r < lo ∨ hi ≤ r
structure OwnI (W : World) (g b : Nat) (d : Dk) (D : DataW Value) (hs : List HF) (l0 lo : Nat) (w6 : World) (An : Option Addr) (nn cn : Nat) (A : Option Addr) (n c M : Nat) (w : World) (S : List Sp) : Prop where
  hb : ∀ r ∈ foot g b hs, r < l0
  hW : W.heap.size ≤ l0
  za : ZnR lo w6.heap.size [.slice A n c]
  sh : Shp w l0 A n c S
  di : DisR (S.map Sp.row)
  zn : ZnR lo w6.heap.size (S.map Sp.row)
  le : ∀ s ∈ S, s.m ≤ M
  rs : Rst W g b d D hs lo w6 An nn cn w
section
variable {W : World} {g b : Nat} {d : Dk} {D : DataW Value} {hs : List HF} {l0 lo : Nat} {w6 : World} {An : Option Addr} {nn cn : Nat} {A : Option Addr} {n c M : Nat} {w : World} {S : List Sp}
theorem row_set {k : Nat} {s s' : Sp} (hk : S[k]? = some s) (h : s'.row = s.row) : (S.set k s').map Sp.row = S.map Sp.row := by
  rw [List.map_set, h]
  apply List.ext_getElem?
  intro i
  rw [List.getElem?_set]
  split
  · rename_i h1
    subst h1
    have hlt := (List.getElem?_eq_some_iff.1 hk).1
    rw [List.getElem?_map, hk]
    simp [hlt]
  · rfl
theorem OwnI.byte (h : OwnI W g b d D hs l0 lo w6 An nn cn A n c M w S) {k q : Nat} {s : Sp} (hk : S[k]? = some s) (hB : s.B = some ⟨q, 0, none⟩) (j : Nat) (x : Int) : OwnI W g b d D hs l0 lo w6 An nn cn A n c M (w.setCell ⟨q, j, none⟩ (.int .u8 x)) S :=
  { h with
    sh := h.sh.setB hk hB j x
    rs := h.rs.turn h.hb h.hW (Turn.cell (F := [q]) (by simp)) fun r hr => by
      simp at hr
      subst hr
      obtain ⟨xs, ho, _⟩ := h.sh.el s (List.mem_of_getElem? hk)
      rw [hB] at ho
      obtain ⟨l, _, hn⟩ := h.rs.ns
      refine ⟨(ho.lt r rfl).1, h.zn s.row (List.mem_map.2 ⟨s, List.mem_of_getElem? hk, rfl⟩) r (by unfold Sp.row; rw [hB]; rfl), fun hc => ?_⟩
      rcases own_ne2 hn ho (by decide) with h1 | h1
      · rw [h1] at hc; cases hc
      · exact h1 hc }
theorem OwnI.cellA {ba : Nat} (h : OwnI W g b d D hs l0 lo w6 An nn cn (some ⟨ba, 0, none⟩) n c M w S) {k i : Nat} {s s' : Sp} {v : Value} (hk : S[k]? = some s) (hi : i < 3) (hs' : (sp1 s).set i v = sp1 s')
    (hel : ∃ xs, w.ownsRow l0 5 1 (.slice s'.B s'.m s'.c) s'.m xs ∧ U8v xs) (hm : s'.m ≤ M) (hd : DisR ((S.set k s').map Sp.row)) (hz : ZnR lo w6.heap.size ((S.set k s').map Sp.row)) :
    OwnI W g b d D hs l0 lo w6 An nn cn (some ⟨ba, 0, none⟩) n c M (w.setCell ⟨ba, k * 3 + i, none⟩ v) (S.set k s') :=
  { h with
    sh := h.sh.setA hk hi hs' hel
    di := hd
    zn := hz
    le := fun t ht => by
      rcases List.mem_or_eq_of_mem_set ht with h1 | h1
      · exact h.le t h1
      · subst h1; exact hm
    rs := h.rs.turn h.hb h.hW (Turn.cell (F := [ba]) (by simp)) fun r hr => by
      simp at hr
      subst hr
      obtain ⟨l, _, hn⟩ := h.rs.ns
      refine ⟨(h.sh.row.lt r rfl).1, h.za (.slice (some ⟨r, 0, none⟩) n c) (by simp) r rfl, fun hc => ?_⟩
      rcases own_ne2 hn h.sh.row (by decide) with h1 | h1
      · rw [h1] at hc; cases hc
      · exact h1 hc }
theorem OwnI.name {ba : Nat} (h : OwnI W g b d D hs l0 lo w6 An nn cn (some ⟨ba, 0, none⟩) n c M w S) {k : Nat} {s : Sp} (hk : S[k]? = some s) (x : ByteArray) :
    OwnI W g b d D hs l0 lo w6 An nn cn (some ⟨ba, 0, none⟩) n c M (w.setCell ⟨ba, k * 3, none⟩ (.string x)) (S.set k { s with name := x }) := by
  have e := row_set (s' := { s with name := x }) hk rfl
  exact h.cellA (i := 0) hk (by omega) rfl (h.sh.el s (List.mem_of_getElem? hk)) (h.le s (List.mem_of_getElem? hk)) (by rw [e]; exact h.di) (by rw [e]; exact h.zn)
theorem OwnI.more {M' : Nat} (h : OwnI W g b d D hs l0 lo w6 An nn cn A n c M w S) (hm : M ≤ M') : OwnI W g b d D hs l0 lo w6 An nn cn A n c M' w S :=
  { h with le := fun s hs => Nat.le_trans (h.le s hs) hm }
theorem OwnI.ext {w' : World} (h : OwnI W g b d D hs l0 lo w6 An nn cn A n c M w S) (hx : Ext w w') : OwnI W g b d D hs l0 lo w6 An nn cn A n c M w' S :=
  { h with
    sh := ⟨own_ext hx h.sh.row, fun s hs => by obtain ⟨xs, ho, hu⟩ := h.sh.el s hs; exact ⟨xs, own_ext hx ho, hu⟩⟩
    rs := h.rs.turn h.hb h.hW (hx.turn []) fun r hr => by cases hr }
theorem DisR.set {vs : List Value} {v v' : Value} {k : Nat} (h : DisR vs) (hk : vs[k]? = some v) (hv : v'.ownBlock = v.ownBlock ∨ ∀ r, v'.ownBlock = some r → ∀ x ∈ vs, x.ownBlock ≠ some r) : DisR (vs.set k v') := by
  unfold DisR at h ⊢
  rw [List.pairwise_iff_getElem] at h ⊢
  have hkl := (List.getElem?_eq_some_iff.1 hk).1
  have hkv := (List.getElem?_eq_some_iff.1 hk).2
  intro i j hi hj hij r h1 h2
  rw [List.getElem_set] at h1 h2
  rw [List.length_set] at hi hj
  split at h1
  · rename_i e1
    subst e1
    rw [if_neg (by omega)] at h2
    rcases hv with h3 | h3
    · exact h k j hi hj hij r (by rw [hkv, ← h3]; exact h1) h2
    · exact h3 r h1 _ (List.getElem_mem hj) h2
  · split at h2
    · rename_i e2
      subst e2
      rcases hv with h3 | h3
      · exact h i k hi hj hij r h1 (by rw [hkv, ← h3]; exact h2)
      · exact h3 r h2 _ (List.getElem_mem hi) h1
    · exact h i j hi hj hij r h1 h2
theorem DisR.at_ {vs : List Value} {x y : Value} {i k r : Nat} (h : DisR vs) (hi : vs[i]? = some x) (hk : vs[k]? = some y) (hne : i ≠ k) (h1 : x.ownBlock = some r) (h2 : y.ownBlock = some r) : False := by
  unfold DisR at h
  rw [List.pairwise_iff_getElem] at h
  obtain ⟨hil, hiv⟩ := List.getElem?_eq_some_iff.1 hi
  obtain ⟨hkl, hkv⟩ := List.getElem?_eq_some_iff.1 hk
  rcases Nat.lt_or_gt_of_ne hne with h3 | h3
  · exact h i k hil hkl h3 r (by rw [hiv]; exact h1) (by rw [hkv]; exact h2)
  · exact h k i hkl hil h3 r (by rw [hkv]; exact h2) (by rw [hiv]; exact h1)
theorem OwnI.app {ba k c' : Nat} {B' : Option Addr} {s : Sp} {w' : World} {xs : List Value} (h : OwnI W g b d D hs l0 lo w6 An nn cn (some ⟨ba, 0, none⟩) n c M w S) (hk : S[k]? = some s) (hu : U8v xs) (x : Int)
    (hown : w.ownsRow l0 5 1 (.slice s.B s.m s.c) s.m xs) (hown' : w'.ownsRow l0 5 1 (.slice B' (s.m + 1) c') (s.m + 1) (xs ++ [.int .u8 x])) (hg : w.grownBy w' (Value.slice s.B s.m s.c).ownBlock)
    (hbl : (Value.slice B' (s.m + 1) c').ownBlock = (Value.slice s.B s.m s.c).ownBlock ∨ (Value.slice B' (s.m + 1) c').ownBlock = some w.heap.size) :
    OwnI W g b d D hs l0 lo w6 An nn cn (some ⟨ba, 0, none⟩) n c (M + 1) (w'.setCell ⟨ba, k * 3 + 1, none⟩ (.slice B' (s.m + 1) c')) (S.set k { s with m := s.m + 1, B := B', c := c' }) := by
  have hmem := List.mem_of_getElem? hk
  have hkr : (S.map Sp.row)[k]? = some s.row := by rw [List.getElem?_map, hk]; rfl
  have ht : Turn (Value.slice s.B s.m s.c).ownBlock.toList w w' := grown_turn hg fun r hr => .inl (by simp [hr])
  have hru : (sp1 s).set 1 (.slice B' (s.m + 1) c') = sp1 { s with m := s.m + 1, B := B', c := c' } := rfl
  have hzr : ∀ r, (Value.slice s.B s.m s.c).ownBlock = some r → r < lo ∨ w6.heap.size ≤ r := fun r hr => h.zn s.row (List.mem_map.2 ⟨s, hmem, rfl⟩) r hr
  have hrs := h.rs.turn h.hb h.hW ht fun r hr => by
    have hr : (Value.slice s.B s.m s.c).ownBlock = some r := by simpa using hr
    obtain ⟨l, _, hn⟩ := h.rs.ns
    refine ⟨(hown.lt r hr).1, hzr r hr, fun hc => ?_⟩
    rcases own_ne2 hn hown (by decide) with h1 | h1
    · rw [h1] at hc; cases hc
    · exact h1 (hc.trans hr.symm)
  have hrow := ht.own h.sh.row fun r hr hc => by
    have hc : (Value.slice s.B s.m s.c).ownBlock = some r := by simpa using hc
    rcases own_ne2 h.sh.row hown (by decide) with h1 | h1
    · rw [h1] at hr; cases hr
    · exact h1 (hr.trans hc.symm)
  have hel : ∀ t ∈ S.set k { s with m := s.m + 1, B := B', c := c' }, ∃ ys, w'.ownsRow l0 5 1 (.slice t.B t.m t.c) t.m ys ∧ U8v ys := fun t htm => by
    obtain ⟨i, hi⟩ := List.getElem?_of_mem htm
    rw [List.getElem?_set] at hi
    split at hi
    · split at hi
      · injection hi with hi
        subst hi
        refine ⟨_, hown', fun v hv => ?_⟩
        rcases List.mem_append.1 hv with h1 | h1
        · exact hu v h1
        · simp at h1; exact ⟨x, h1⟩
      · cases hi
    · rename_i hne
      obtain ⟨ys, ho, hy⟩ := h.sh.el t (List.mem_of_getElem? hi)
      refine ⟨ys, ht.own ho fun r hr hc => ?_, hy⟩
      have hc : (Value.slice s.B s.m s.c).ownBlock = some r := by simpa using hc
      exact h.di.at_ (i := i) (k := k) (by rw [List.getElem?_map, hi]; rfl) hkr (fun e => hne e.symm) (x := t.row) hr hc
  refine
  { hb := h.hb, hW := h.hW, za := h.za
    sh := ⟨by rw [← spC_set S k 1 s _ _ hk (by omega) hru]; exact own_setN hrow _, fun t htm => ?_⟩
    di := ?_, zn := ?_, le := ?_
    rs := hrs.turn h.hb h.hW (Turn.cell (F := [ba]) (by simp)) fun r hr => ?_ }
  · obtain ⟨ys, ho, hy⟩ := hel t htm
    refine ⟨ys, ownsRow_setCell_other ho (fun hc => ?_) _, hy⟩
    rcases own_ne2 ho hrow (by decide) with h1 | h1
    · rw [h1] at hc; cases hc
    · exact h1 hc
  · rw [List.map_set]
    refine h.di.set hkr ?_
    rcases hbl with h1 | h1
    · exact .inl h1
    · refine .inr fun r hr v hv hc => ?_
      obtain ⟨t, htm, rfl⟩ := List.mem_map.1 hv
      obtain ⟨ys, ho, _⟩ := h.sh.el t htm
      have h2 := (ho.lt r hc).2
      have hr : (Value.slice B' (s.m + 1) c').ownBlock = some r := hr
      rw [h1] at hr
      injection hr with hr
      omega
  · rw [List.map_set]
    intro v hv r hr
    rcases List.mem_or_eq_of_mem_set hv with h1 | h1
    · exact h.zn v h1 r hr
    · subst h1
      have hr : (Value.slice B' (s.m + 1) c').ownBlock = some r := hr
      rcases hbl with h2 | h2
      · exact hzr r (h2 ▸ hr)
      · rw [h2] at hr
        injection hr with hr
        have := h.rs.kp.1
        omega
  · intro t htm
    rcases List.mem_or_eq_of_mem_set htm with h1 | h1
    · have := h.le t h1; omega
    · subst h1
      have := h.le s hmem
      dsimp only
      omega
  · simp at hr
    subst hr
    obtain ⟨l, _, hn⟩ := hrs.ns
    refine ⟨(h.sh.row.lt r rfl).1, h.za (.slice (some ⟨r, 0, none⟩) n c) (by simp) r rfl, fun hc => ?_⟩
    rcases own_ne2 hn hrow (by decide) with h1 | h1
    · rw [h1] at hc; cases hc
    · exact h1 hc
theorem OwnI.cells {ba k : Nat} {s : Sp} {w' : World} {xs : List Value} (h : OwnI W g b d D hs l0 lo w6 An nn cn (some ⟨ba, 0, none⟩) n c M w S) (hk : S[k]? = some s)
    (hown : w.ownsRow l0 5 1 (.slice s.B s.m s.c) s.m xs) (hg : w.grownBy w' (Value.slice s.B s.m s.c).ownBlock) :
    w'.cell? ⟨ba, k * 3 + 1, none⟩ = some (.slice s.B s.m s.c) ∧ w'.frozen? ⟨ba, k * 3 + 1, none⟩ = false := by
  have ht : Turn (Value.slice s.B s.m s.c).ownBlock.toList w w' := grown_turn hg fun r hr => .inl (by simp [hr])
  have hrow := ht.own h.sh.row fun r hr hc => by
    have hc : (Value.slice s.B s.m s.c).ownBlock = some r := by simpa using hc
    rcases own_ne2 h.sh.row hown (by decide) with h1 | h1
    · rw [h1] at hr; cases hr
    · exact h1 (hr.trans hc.symm)
  have hlt : k < n := by have := h.sh.len; have := (List.getElem?_eq_some_iff.1 hk).1; omega
  obtain ⟨q, hA, _, hf⟩ := own_some hrow (by omega)
  injection hA with hA
  injection hA with hA
  subst hA
  have h1 := RdN.of_own hrow
  obtain ⟨b1, o, e, hc⟩ := h1.2 (by omega)
  injection e with e
  injection e with e1 e2
  subst e1 e2
  refine ⟨?_, hf _⟩
  have := hc (k * 3 + 1) (.slice s.B s.m s.c) (by rw [spC_at S k 1 s hk (by omega)]; rfl)
  simpa using this
end
end Go.Proofs.Ytomnllkliifeoaa
