/-
  Lines by their places; stores into lines of the call's own.
-/
import Derived.Test.YtlpjhnecihhkfaaOrdK
import Derived.Test.YtlpjhnecihhkfaaOrdM
import Derived.Test.YtlpjhnecihhkfaaOrdB
namespace Go.Proofs.Ytlpjhnecihhkfaa
open Go.RowKit
set_option linter.unusedVariables false
set_option linter.unusedSimpArgs false
theorem pos_le (item : Int) (ls : List Ln) : posOf item ls ≤ ls.length := by
  induction ls with
  | nil => simp [posOf]
  | cons l r ih =>
    unfold posOf
    split <;> simp; omega
theorem there_cons {item : Int} {l : Ln} {r : List Ln} : thereB item (l :: r) = (decide (l.item = item) || thereB item r) := by simp [thereB]
theorem there_gt {item b : Int} {ls : List Ln} (hb : risesB b ls = true) (h : item ≤ b) : thereB item ls = false := by
  rw [Bool.eq_false_iff]
  intro hc
  obtain ⟨x, hx, he⟩ := List.any_eq_true.1 hc
  have := (rises_mem hb x hx).2
  simp at he
  omega
theorem more_there {item price q b : Int} {ls : List Ln} (hb : risesB b ls = true) (ht : thereB item ls = true) (h : posOf item ls < ls.length) :
    more item price q ls = if 0 < ls[posOf item ls].qty + q then ls.set (posOf item ls) ⟨ls[posOf item ls].item, ls[posOf item ls].price, ls[posOf item ls].qty + q, ls[posOf item ls].shipped⟩ else ls.take (posOf item ls) ++ ls.drop (posOf item ls + 1) := by
  induction ls generalizing b with
  | nil => simp at h
  | cons l r ih =>
    obtain ⟨r1, r2, r3⟩ := rises_cons.1 hb
    rw [there_cons] at ht
    unfold more
    by_cases hlt : l.item < item
    · have hp : posOf item (l :: r) = posOf item r + 1 := (if_pos hlt : (if l.item < item then posOf item r + 1 else 0) = _)
      have ht2 : thereB item r = true := by
        rcases Bool.or_eq_true_iff.1 ht with h2 | h2
        · simp at h2; omega
        · exact h2
      have hlen : posOf item r < r.length := by rw [hp] at h; simpa using h
      rw [if_neg (by omega), if_neg (by omega), ih r3 ht2 hlen]
      simp only [hp, List.getElem_cons_succ, List.set_cons_succ, List.take_succ_cons, List.drop_succ_cons]
      split <;> rfl
    · have hp : posOf item (l :: r) = 0 := (if_neg hlt : (if l.item < item then posOf item r + 1 else 0) = _)
      have he : l.item = item := by
        rcases Bool.or_eq_true_iff.1 ht with h2 | h2
        · simpa using h2
        · have h3 : thereB item r = false ∨ l.item < item := by
            by_cases h4 : item ≤ l.item
            · exact .inl (there_gt r3 h4)
            · exact .inr (by omega)
          rcases h3 with h3 | h3
          · rw [h3] at h2; cases h2
          · omega
      rw [if_neg (by omega), if_pos he]
      simp only [hp, List.getElem_cons_zero, List.set_cons_zero, List.take_zero, List.nil_append, Nat.zero_add, List.drop_succ_cons, List.drop_zero]
theorem more_not {item price q : Int} {ls : List Ln} (ht : thereB item ls = false) : more item price q ls = ls.take (posOf item ls) ++ ⟨item, price, q, 0⟩ :: ls.drop (posOf item ls) := by
  induction ls with
  | nil => simp [more, posOf]
  | cons l r ih =>
    rw [there_cons, Bool.or_eq_false_iff] at ht
    have hne : ¬ l.item = item := by simpa using ht.1
    unfold more
    by_cases hlt : l.item < item
    · have hp : posOf item (l :: r) = posOf item r + 1 := (if_pos hlt : (if l.item < item then posOf item r + 1 else 0) = _)
      rw [if_neg (by omega), if_neg hne, hp, ih ht.2]
      simp
    · have hp : posOf item (l :: r) = 0 := (if_neg hlt : (if l.item < item then posOf item r + 1 else 0) = _)
      rw [if_pos (by omega), hp]
      simp
theorem ship_not {item q : Int} {ls : List Ln} (ht : thereB item ls = false) : shipL item q ls = ls := by
  induction ls with
  | nil => rfl
  | cons l r ih =>
    rw [there_cons, Bool.or_eq_false_iff] at ht
    have hne : ¬ l.item = item := by simpa using ht.1
    show (if l.item = item then _ else l) :: shipL item q r = _
    rw [if_neg hne, ih ht.2]
theorem ship_there {item q b : Int} {ls : List Ln} (hb : risesB b ls = true) (ht : thereB item ls = true) (h : posOf item ls < ls.length) :
    shipL item q ls = ls.set (posOf item ls) ⟨ls[posOf item ls].item, ls[posOf item ls].price, ls[posOf item ls].qty, ls[posOf item ls].shipped + q⟩ := by
  induction ls generalizing b with
  | nil => simp at h
  | cons l r ih =>
    obtain ⟨r1, r2, r3⟩ := rises_cons.1 hb
    rw [there_cons] at ht
    show (if l.item = item then _ else l) :: shipL item q r = _
    by_cases hlt : l.item < item
    · have hp : posOf item (l :: r) = posOf item r + 1 := (if_pos hlt : (if l.item < item then posOf item r + 1 else 0) = _)
      have ht2 : thereB item r = true := by
        rcases Bool.or_eq_true_iff.1 ht with h2 | h2
        · simp at h2; omega
        · exact h2
      have hlen : posOf item r < r.length := by rw [hp] at h; simpa using h
      rw [if_neg (by omega), ih r3 ht2 hlen]
      simp only [hp, List.getElem_cons_succ, List.set_cons_succ]
    · have hp : posOf item (l :: r) = 0 := (if_neg hlt : (if l.item < item then posOf item r + 1 else 0) = _)
      have he : l.item = item := by
        rcases Bool.or_eq_true_iff.1 ht with h2 | h2
        · simpa using h2
        · rw [there_gt r3 (by omega)] at h2; cases h2
      rw [if_pos he, ship_not (there_gt r3 (by omega))]
      simp only [hp, List.getElem_cons_zero, List.set_cons_zero]
theorem lnCells_set (ls : List Ln) (k : Nat) (l : Ln) (hk : k < ls.length) : ∀ j, (lnCells (ls.set k l))[j]? = if k * 4 ≤ j ∧ j < k * 4 + 4 then (lncells l)[j - k * 4]? else (lnCells ls)[j]? := by
  intro j
  have hX := lnCells_len ls
  have hY := lnCells_len (ls.set k l)
  rw [List.length_set] at hY
  obtain ⟨q, r, hr, rfl⟩ : ∃ q r, r < 4 ∧ j = q * 4 + r := ⟨j / 4, j % 4, Nat.mod_lt _ (by omega), by omega⟩
  rcases Nat.lt_or_ge q ls.length with hq | hq
  · by_cases hqk : q = k
    · subst hqk
      rw [if_pos (by omega), lnCells_at (ls.set q l) q r l (by rw [List.getElem?_set_self hk]) hr, Array.getElem?_toList, show q * 4 + r - q * 4 = r by omega]
    · rw [if_neg (by omega), lnCells_at (ls.set k l) q r ls[q] (by rw [List.getElem?_set_ne (by omega), List.getElem?_eq_getElem hq]) hr, lnCells_at ls q r ls[q] (List.getElem?_eq_getElem hq) hr]
  · rw [if_neg (by omega), List.getElem?_eq_none (by omega), List.getElem?_eq_none (by omega)]
/-- A store into a field of a line of the call's own. -/
theorem own_set {w : World} {base g c k f : Nat} {ls : List Ln} {v : Value} {l : Ln} (h : OwnLs w base (some ⟨g, 0, none⟩) ls c) (hk : k < ls.length) (hf : f < 4) (hl : lncells l = (lncells ls[k]).setIfInBounds f v) :
    OwnLs (w.setCell ⟨g, k * 4 + f, none⟩ v) base (some ⟨g, 0, none⟩) (ls.set k l) c := by
  have hnc := own_cap h
  obtain ⟨g', cur, hA, hg, hb, hs, hcur⟩ := own_form h (by omega)
  obtain rfl : g = g' := by cases hA; rfl
  have hX := lnCells_len ls
  refine own_of_cells hg (BlkS hb) (by rw [List.length_set]; omega) (by simp only [maxLen]; omega) (by rw [Array.size_setIfInBounds, hs]) ?_
  apply List.ext_getElem?
  intro j
  rw [List.getElem?_take, Array.getElem?_toList, lnCells_set ls k l hk, List.length_set]
  by_cases hj : j < ls.length * 4
  · rw [if_pos hj, Array.getElem?_setIfInBounds]
    by_cases hjk : k * 4 ≤ j ∧ j < k * 4 + 4
    · rw [if_pos hjk, hl, Array.getElem?_setIfInBounds]
      have h4 : (lncells ls[k]).size = 4 := rfl
      by_cases hjf : k * 4 + f = j
      · rw [if_pos hjf, if_pos (by omega), if_pos (by omega), if_pos (by omega)]
      · rw [if_neg hjf, if_neg (by omega), hcur j hj]
        have := lnCells_at ls k (j - k * 4) ls[k] (List.getElem?_eq_getElem hk) (by omega)
        rw [show k * 4 + (j - k * 4) = j by omega] at this
        rw [this, Array.getElem?_toList]
    · rw [if_neg hjk, if_neg (by omega), hcur j hj]
  · rw [if_neg hj, if_neg (by omega), List.getElem?_eq_none (by omega)]
/-- The block of lines that aren't empty. -/
theorem own_blk {w : World} {base c : Nat} {A : Option Addr} {ls : List Ln} (h : OwnLs w base A ls c) (h0 : 0 < ls.length) : ∃ g cur, A = some ⟨g, 0, none⟩ ∧ base ≤ g ∧ Blk w g 48 cur := by
  obtain ⟨g, cur, hA, hg, hb, _, _⟩ := own_form h h0
  exact ⟨g, cur, hA, hg, hb⟩
theorem own_at {w : World} {base g c k : Nat} {ls : List Ln} (h : OwnLs w base (some ⟨g, 0, none⟩) ls c) (hk : k < ls.length) : w.rangeAt g (k * 4) (lncells ls[k]).toList := by
  obtain ⟨b, o, hA, hc⟩ := ls_at h.rd hk
  cases hA
  intro j v hj
  have := hc j v hj
  rwa [Nat.zero_add] at this
theorem OwnLs.mono {w w' : World} {base c : Nat} {A : Option Addr} {ls : List Ln} (h : OwnLs w base A ls c) (hx : Ext w w') : OwnLs w' base A ls c := World.ownsRow.kept h (ext_grown hx none) (by rcases hA : (Value.slice A ls.length c).ownBlock with _ | g; exact .inl rfl; exact .inr (by simp))
end Go.Proofs.Ytlpjhnecihhkfaa
