/-
  The walk of slices.Delete at lines: one line.
-/
/-
  Lines by their places; stores into lines of the call's own.
-/
import Derived.Test.YtjomgppbialeoaaGreatOrdI
import Derived.WalkKit
import Derived.Lib.Walk
import Derived.Lib.SlicesDelete
import Derived.Test.YtjomgppbialeoaaGreatOrdB
namespace Go.Proofs.YtjomgppbialeoaaGreat
open Go.RowKit
set_option linter.unusedVariables false
set_option linter.unusedSimpArgs false
set_option maxRecDepth 100000 in
set_option maxHeartbeats 4000000 in
theorem delete_any (ls : List Ln) (k : Nat) (A : Option Addr) (c base : Nat) (w : World) (hown : OwnLs w base A ls c) (hlen : ls.length ≤ 16) (hk : k < ls.length) :
    Calls Tryz.prog 73 #[.slice A ls.length c, .int .i64 (k : Nat), .int .i64 ((k : Int) + 1)] w (InsPost w base A ls.length c (ls.take k ++ ls.drop (k + 1))) := by
  have hnc := own_cap hown
  obtain ⟨i0, hi0, hz0, hzs, hzb⟩ := info_parts el_ln.1
  obtain ⟨g, cur, rfl, hg, hb, hs, hcur⟩ := own_form hown (by omega)
  have hX := lnCells_len ls
  obtain ⟨DR, hDR⟩ : ∃ DR, DR = (lnCells ls).drop ((k + 1) * 4) := ⟨_, rfl⟩
  have hdl : DR.length = (ls.length - (k + 1)) * 4 := by rw [hDR, List.length_drop, hX]; omega
  have hget : ∀ j v, DR[j]? = some v → cur[(k + 1) * 4 + j]? = some v := fun j v hj => by
    rw [hDR, List.getElem?_drop] at hj
    rw [hcur _ (by have := (List.getElem?_eq_some_iff.1 hj).1; omega)]; exact hj
  obtain ⟨B, hB, hsrc⟩ : ∃ B : Addr, (if c = k + 1 then some (⟨g, 0, none⟩ : Addr) else some ⟨g, (k + 1) * 4, none⟩) = some B ∧ Hid (∀ j u, DR[j]? = some u → w.drew.cell? (B.add j) = some u) := by
    by_cases h : c = k + 1
    · refine ⟨⟨g, 0, none⟩, by simp [h], fun j u hu => ?_⟩
      have h0 : DR.length = 0 := by rw [hdl]; omega
      rw [List.length_eq_zero_iff.1 h0] at hu
      simp at hu
    · refine ⟨⟨g, (k + 1) * 4, none⟩, by simp [h], fun j u hu => ?_⟩
      rw [Addr.add_lit]
      exact (hb.cell _).trans (hget j u hu)
  have h1 : ∀ v ∈ DR, v.oneCell' = true := fun v hv => lnCells_one ls v (List.mem_of_mem_drop (hDR ▸ hv))
  have s1 : Hid (DR.length = (ls.length - (k + 1)) * 4) := hdl
  have s2 : Hid (∀ v ∈ DR, v.oneCell' = true) := h1
  have s3 : Hid (∀ j, j < DR.length → (w.drew.cell? ⟨g, 0 + k * 4 + j, none⟩).isSome = true ∧ w.drew.frozen? ⟨g, 0 + k * 4 + j, none⟩ = false) := by
    intro j hj
    rw [hdl] at hj
    refine ⟨?_, hb.frozen _⟩
    show (w.cell? _).isSome = true
    rw [hb.cell, Array.getElem?_eq_getElem (by omega)]; rfl
  obtain ⟨W1, hW1⟩ : ∃ W1, W1 = w.drew.setCells g (0 + k * 4) DR := ⟨_, rfl⟩
  obtain ⟨R1, hR1⟩ : ∃ R1, R1 = ov cur (0 + k * 4) DR := ⟨_, rfl⟩
  have hb1 : Blk W1 g 44 R1 := by rw [hW1, hR1]; exact BlkC (BlkD hb)
  have ho1 : over cur (0 + k * 4) DR R1 := by rw [hR1]; exact over_ov _ _ _ (by rw [hdl, hs]; omega)
  have hs1 : R1.size = c * 4 := by rw [ho1.1, hs]
  obtain ⟨Z, hZ⟩ : ∃ Z, (Builtin.zeroCells (lncells ⟨0, 0, 0, 0⟩) 1).toList = Z := ⟨_, rfl⟩
  have hZ4 : Z.length = 4 := by rw [← hZ, Array.length_toList, size_zeroCells]; rfl
  have hZ1 : ∀ v ∈ Z, v.oneCell' = true := by rw [← hZ]; intro v hv; simp [Builtin.zeroCells, lncells] at hv; obtain ⟨i, hi, rfl⟩ := hv; (match i, hi with | 0, _ => rfl | 1, _ => rfl | 2, _ => rfl | 3, _ => rfl)
  have hcl : ∀ ty cc, (Builtin.clear_ #[23] ty #[.slice (some ⟨g, (k + (ls.length - (k + 1))) * 4, none⟩) (ls.length - (k + (ls.length - (k + 1)))) cc]).run Tryz.prog W1 = .ok (.tuple #[]) (W1.setCells g ((k + (ls.length - (k + 1))) * 4) Z) := fun ty cc => by
    rw [show ls.length - (k + (ls.length - (k + 1))) = 1 by omega]
    exact run_clearN 23 ty 44 (.agg (lncells ⟨0, 0, 0, 0⟩)) (lncells ⟨0, 0, 0, 0⟩) 4 Tryz.underlying23 (by kernel_rfl) rfl g ((k + (ls.length - (k + 1))) * 4) 1 cc (by omega) Z hZ R1 44 hb1 (by rw [hZ4, hs1]; omega) hZ1
  have Hout : Hid (InsPost w base (some ⟨g, 0, none⟩) ls.length c (ls.take k ++ ls.drop (k + 1)) (.returned (.slice (some ⟨g, 0, none⟩) (k + (ls.length - (k + 1))) c)) (W1.setCells g ((k + (ls.length - (k + 1))) * 4) Z)) := by
    have hl : (ls.take k ++ ls.drop (k + 1)).length = k + (ls.length - (k + 1)) := by simp; omega
    have ho2 : over R1 ((k + (ls.length - (k + 1))) * 4) Z (ov R1 ((k + (ls.length - (k + 1))) * 4) Z) := over_ov _ _ _ (by rw [hZ4, hs1]; omega)
    refine ⟨some ⟨g, 0, none⟩, c, by rw [hl], ?_, own_of_cells hg (BlkC hb1) (by rw [hl]; omega) (by simp only [maxLen]; omega) (by rw [ho2.1, hs1]) ?_⟩
    · rw [hW1]
      exact grown_setCells _ _ _ (grown_setCells _ _ _ (GrD (World.grownBy.refl w (some g))))
    · rw [hl, lnCells_app, lnCells_take, lnCells_drop, ← hDR]
      apply List.ext_getElem?
      intro j
      have hta : ((lnCells ls).take (k * 4)).length = k * 4 := by rw [List.length_take]; omega
      rw [List.getElem?_take, Array.getElem?_toList]
      by_cases hj : j < (k + (ls.length - (k + 1))) * 4
      · rw [if_pos hj, ho2.2, if_neg (by omega), ho1.2]
        by_cases hjk : j < k * 4
        · rw [if_neg (by omega), List.getElem?_append_left (by omega), List.getElem?_take, if_pos hjk, hcur j (by omega)]
        · rw [if_pos (by rw [hdl]; omega), List.getElem?_append_right (by omega), hta, Nat.zero_add]
      · rw [if_neg hj, List.getElem?_eq_none (by rw [List.length_append, hta, hdl]; omega)]
  have hW : Hid (W1 = w.drew.setCells g (0 + k * 4) DR) := hW1
  have hw1 : ¬ ((k : Int) = (k : Int) + 1) := by omega
  have hb3 : (k : Int) ≤ (ls.length : Int) := by omega
  have hb6 : (0 : Int) ≤ (k : Int) + 1 := by omega
  have hb7 : ((k : Int) + 1).toNat = k + 1 := by omega
  have hb8 : (k : Int) + 1 ≤ (ls.length : Int) := by omega
  have hb9 : k + (ls.length - (k + 1)) ≤ ls.length := by omega
  have hb10 : ¬ (c = k + (ls.length - (k + 1))) := by omega
  have hkc : k ≤ c := by omega
  have mixed : Tryz.prog.follows Departure.mixedOrders = true := by kernel_rfl
  have hkn : k ≤ ls.length := by omega
  have hroom : k + (ls.length - (k + 1)) ≤ c := by omega
  clear hown hb hcur hX hdl hb1 ho1 hs1 hs hget h1 hDR hR1 hW1 hZ hZ4
  generalize ls.length = n at *
  go_enter Tryz.func73, Tryz.ntmps73
  go_wp2_with fail
  go_region_law_o (refine step_append_room rfl (.tmp 22) (.tmp 25) 23 rfl 44 i0 4 Tryz.underlying23 hi0 hzs g 0 k c (by simp [Act.eval, Act.put]) B (n - (k + 1)) (c - (k + 1)) DR (by simp [Act.eval, Act.put]) s1.out hsrc.out s2.out (by omega) s3.out ?_; rw [← hW.out])
  go_wp2_with (at_builtin; refine wpL_builtin rfl _ 23 rfl _ rfl (hcl _ _) ?_)
  go_ret
  exact Hout.out
end Go.Proofs.YtjomgppbialeoaaGreat

namespace Go.Proofs.YtjomgppbialeoaaGreat
open Go.RowKit
set_option linter.unusedVariables false
set_option linter.unusedSimpArgs false
theorem pos_le (item : Int) (ls : List Ln) : posOf item ls ≤ ls.length := by
  induction ls with
  | nil => simp [posOf]
  | cons l r ih =>
    unfold posOf
    split <;> simp; omega
theorem there_cons {item : Int} {l : Ln} {r : List Ln} : thereB item (l :: r) = (decide (l.item = item) || thereB item r) := by simp [thereB]
theorem there_gt {item b : Int} {ls : List Ln} (hb : risesB b ls = true) (h : item ≤ b) : thereB item ls = false := by
  rw [Bool.eq_false_iff]
  intro hc
  obtain ⟨x, hx, he⟩ := List.any_eq_true.1 hc
  have := (rises_mem hb x hx).2
  simp at he
  omega
theorem more_there {item price q b : Int} {ls : List Ln} (hb : risesB b ls = true) (ht : thereB item ls = true) (h : posOf item ls < ls.length) :
    more item price q ls = if 0 < ls[posOf item ls].qty + q then ls.set (posOf item ls) ⟨ls[posOf item ls].item, ls[posOf item ls].price, ls[posOf item ls].qty + q, ls[posOf item ls].shipped⟩ else ls.take (posOf item ls) ++ ls.drop (posOf item ls + 1) := by
  induction ls generalizing b with
  | nil => simp at h
  | cons l r ih =>
    obtain ⟨r1, r2, r3⟩ := rises_cons.1 hb
    rw [there_cons] at ht
    unfold more
    by_cases hlt : l.item < item
    · have hp : posOf item (l :: r) = posOf item r + 1 := (if_pos hlt : (if l.item < item then posOf item r + 1 else 0) = _)
      have ht2 : thereB item r = true := by
        rcases Bool.or_eq_true_iff.1 ht with h2 | h2
        · simp at h2; omega
        · exact h2
      have hlen : posOf item r < r.length := by rw [hp] at h; simpa using h
      rw [if_neg (by omega), if_neg (by omega), ih r3 ht2 hlen]
      simp only [hp, List.getElem_cons_succ, List.set_cons_succ, List.take_succ_cons, List.drop_succ_cons]
      split <;> rfl
    · have hp : posOf item (l :: r) = 0 := (if_neg hlt : (if l.item < item then posOf item r + 1 else 0) = _)
      have he : l.item = item := by
        rcases Bool.or_eq_true_iff.1 ht with h2 | h2
        · simpa using h2
        · have h3 : thereB item r = false ∨ l.item < item := by
            by_cases h4 : item ≤ l.item
            · exact .inl (there_gt r3 h4)
            · exact .inr (by omega)
          rcases h3 with h3 | h3
          · rw [h3] at h2; cases h2
          · omega
      rw [if_neg (by omega), if_pos he]
      simp only [hp, List.getElem_cons_zero, List.set_cons_zero, List.take_zero, List.nil_append, Nat.zero_add, List.drop_succ_cons, List.drop_zero]
theorem more_not {item price q : Int} {ls : List Ln} (ht : thereB item ls = false) : more item price q ls = ls.take (posOf item ls) ++ ⟨item, price, q, 0⟩ :: ls.drop (posOf item ls) := by
  induction ls with
  | nil => simp [more, posOf]
  | cons l r ih =>
    rw [there_cons, Bool.or_eq_false_iff] at ht
    have hne : ¬ l.item = item := by simpa using ht.1
    unfold more
    by_cases hlt : l.item < item
    · have hp : posOf item (l :: r) = posOf item r + 1 := (if_pos hlt : (if l.item < item then posOf item r + 1 else 0) = _)
      rw [if_neg (by omega), if_neg hne, hp, ih ht.2]
      simp
    · have hp : posOf item (l :: r) = 0 := (if_neg hlt : (if l.item < item then posOf item r + 1 else 0) = _)
      rw [if_pos (by omega), hp]
      simp
theorem ship_not {item q : Int} {ls : List Ln} (ht : thereB item ls = false) : shipL item q ls = ls := by
  induction ls with
  | nil => rfl
  | cons l r ih =>
    rw [there_cons, Bool.or_eq_false_iff] at ht
    have hne : ¬ l.item = item := by simpa using ht.1
    show (if l.item = item then _ else l) :: shipL item q r = _
    rw [if_neg hne, ih ht.2]
theorem ship_there {item q b : Int} {ls : List Ln} (hb : risesB b ls = true) (ht : thereB item ls = true) (h : posOf item ls < ls.length) :
    shipL item q ls = ls.set (posOf item ls) ⟨ls[posOf item ls].item, ls[posOf item ls].price, ls[posOf item ls].qty, ls[posOf item ls].shipped + q⟩ := by
  induction ls generalizing b with
  | nil => simp at h
  | cons l r ih =>
    obtain ⟨r1, r2, r3⟩ := rises_cons.1 hb
    rw [there_cons] at ht
    show (if l.item = item then _ else l) :: shipL item q r = _
    by_cases hlt : l.item < item
    · have hp : posOf item (l :: r) = posOf item r + 1 := (if_pos hlt : (if l.item < item then posOf item r + 1 else 0) = _)
      have ht2 : thereB item r = true := by
        rcases Bool.or_eq_true_iff.1 ht with h2 | h2
        · simp at h2; omega
        · exact h2
      have hlen : posOf item r < r.length := by rw [hp] at h; simpa using h
      rw [if_neg (by omega), ih r3 ht2 hlen]
      simp only [hp, List.getElem_cons_succ, List.set_cons_succ]
    · have hp : posOf item (l :: r) = 0 := (if_neg hlt : (if l.item < item then posOf item r + 1 else 0) = _)
      have he : l.item = item := by
        rcases Bool.or_eq_true_iff.1 ht with h2 | h2
        · simpa using h2
        · rw [there_gt r3 (by omega)] at h2; cases h2
      rw [if_pos he, ship_not (there_gt r3 (by omega))]
      simp only [hp, List.getElem_cons_zero, List.set_cons_zero]
theorem lnCells_set (ls : List Ln) (k : Nat) (l : Ln) (hk : k < ls.length) : ∀ j, (lnCells (ls.set k l))[j]? = if k * 4 ≤ j ∧ j < k * 4 + 4 then (lncells l)[j - k * 4]? else (lnCells ls)[j]? := by
  intro j
  have hX := lnCells_len ls
  have hY := lnCells_len (ls.set k l)
  rw [List.length_set] at hY
  obtain ⟨q, r, hr, rfl⟩ : ∃ q r, r < 4 ∧ j = q * 4 + r := ⟨j / 4, j % 4, Nat.mod_lt _ (by omega), by omega⟩
  rcases Nat.lt_or_ge q ls.length with hq | hq
  · by_cases hqk : q = k
    · subst hqk
      rw [if_pos (by omega), lnCells_at (ls.set q l) q r l (by rw [List.getElem?_set_self hk]) hr, Array.getElem?_toList, show q * 4 + r - q * 4 = r by omega]
    · rw [if_neg (by omega), lnCells_at (ls.set k l) q r ls[q] (by rw [List.getElem?_set_ne (by omega), List.getElem?_eq_getElem hq]) hr, lnCells_at ls q r ls[q] (List.getElem?_eq_getElem hq) hr]
  · rw [if_neg (by omega), List.getElem?_eq_none (by omega), List.getElem?_eq_none (by omega)]
/-- A store into a field of a line of the call's own. -/
theorem own_set {w : World} {base g c k f : Nat} {ls : List Ln} {v : Value} {l : Ln} (h : OwnLs w base (some ⟨g, 0, none⟩) ls c) (hk : k < ls.length) (hf : f < 4) (hl : lncells l = (lncells ls[k]).setIfInBounds f v) :
    OwnLs (w.setCell ⟨g, k * 4 + f, none⟩ v) base (some ⟨g, 0, none⟩) (ls.set k l) c := by
  have hnc := own_cap h
  obtain ⟨g', cur, hA, hg, hb, hs, hcur⟩ := own_form h (by omega)
  obtain rfl : g = g' := by cases hA; rfl
  have hX := lnCells_len ls
  refine own_of_cells hg (BlkS hb) (by rw [List.length_set]; omega) (by simp only [maxLen]; omega) (by rw [Array.size_setIfInBounds, hs]) ?_
  apply List.ext_getElem?
  intro j
  rw [List.getElem?_take, Array.getElem?_toList, lnCells_set ls k l hk, List.length_set]
  by_cases hj : j < ls.length * 4
  · rw [if_pos hj, Array.getElem?_setIfInBounds]
    by_cases hjk : k * 4 ≤ j ∧ j < k * 4 + 4
    · rw [if_pos hjk, hl, Array.getElem?_setIfInBounds]
      have h4 : (lncells ls[k]).size = 4 := rfl
      by_cases hjf : k * 4 + f = j
      · rw [if_pos hjf, if_pos (by omega), if_pos (by omega), if_pos (by omega)]
      · rw [if_neg hjf, if_neg (by omega), hcur j hj]
        have := lnCells_at ls k (j - k * 4) ls[k] (List.getElem?_eq_getElem hk) (by omega)
        rw [show k * 4 + (j - k * 4) = j by omega] at this
        rw [this, Array.getElem?_toList]
    · rw [if_neg hjk, if_neg (by omega), hcur j hj]
  · rw [if_neg hj, if_neg (by omega), List.getElem?_eq_none (by omega)]
/-- The block of lines that aren't empty. -/
theorem lown_blk {w : World} {base c : Nat} {A : Option Addr} {ls : List Ln} (h : OwnLs w base A ls c) (h0 : 0 < ls.length) : ∃ g cur, A = some ⟨g, 0, none⟩ ∧ base ≤ g ∧ Blk w g 44 cur := by
  obtain ⟨g, cur, hA, hg, hb, _, _⟩ := own_form h h0
  exact ⟨g, cur, hA, hg, hb⟩
theorem own_at {w : World} {base g c k : Nat} {ls : List Ln} (h : OwnLs w base (some ⟨g, 0, none⟩) ls c) (hk : k < ls.length) : w.rangeAt g (k * 4) (lncells ls[k]).toList := by
  obtain ⟨b, o, hA, hc⟩ := ls_at h.rd hk
  cases hA
  intro j v hj
  have := hc j v hj
  rwa [Nat.zero_add] at this
theorem OwnLs.mono {w w' : World} {base c : Nat} {A : Option Addr} {ls : List Ln} (h : OwnLs w base A ls c) (hx : Ext w w') : OwnLs w' base A ls c := World.ownsRow.kept h (ext_grown hx none) (by rcases hA : (Value.slice A ls.length c).ownBlock with _ | g; exact .inl rfl; exact .inr (by simp))
end Go.Proofs.YtjomgppbialeoaaGreat
