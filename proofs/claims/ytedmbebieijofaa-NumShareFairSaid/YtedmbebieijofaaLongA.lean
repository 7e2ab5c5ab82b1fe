/-
  Long numbers as cells: the sign and sixteen digits.
-/
import Derived.Test.YtedmbebieijofaaLongP
namespace Go.Proofs.Ytedmbebieijofaa
open Go.RowKit
set_option linter.unusedVariables false
set_option linter.unusedSimpArgs false
def arrA (b : Bool) (D : Nat → Nat) : Array Value := (Value.bool b :: (List.range 16).map fun j => Value.int .u64 (D j)).toArray
theorem arr_size (b : Bool) (D : Nat → Nat) : (arrA b D).size = 17 := by simp [arrA]
theorem arr_get0 (b : Bool) (D : Nat → Nat) : (arrA b D)[0]? = some (.bool b) := by simp [arrA]
theorem arr_get (b : Bool) (D : Nat → Nat) (i : Nat) (h : i < 16) : (arrA b D)[1 + i]? = some (.int .u64 (D i)) := by
  unfold arrA
  rw [List.getElem?_toArray, Nat.add_comm, List.getElem?_cons_succ]
  simp [h]
theorem arr_ext {b : Bool} {D E : Nat → Nat} (h : ∀ j, j < 16 → D j = E j) : arrA b D = arrA b E := by
  unfold arrA
  congr 2
  apply List.map_congr_left
  intro j hj
  rw [h j (by simpa using hj)]
theorem arr_set (b : Bool) (D : Nat → Nat) (i x : Nat) (h : i < 16) : (arrA b D).setIfInBounds (1 + i) (.int .u64 x) = arrA b (fun j => if j = i then x else D j) := by
  unfold arrA
  rw [List.setIfInBounds_toArray, Nat.add_comm, List.set_cons_succ]
  congr 2
  apply List.ext_getElem
  · simp
  · intro j h1 h2
    simp only [List.getElem_set, List.getElem_map, List.getElem_range]
    by_cases hij : i = j
    · subst hij; simp
    · simp [hij, Ne.symm hij]
theorem arr_set0 (b c : Bool) (D : Nat → Nat) : (arrA b D).setIfInBounds 0 (.bool c) = arrA c D := by
  unfold arrA; simp
theorem arr_one (b : Bool) (D : Nat → Nat) : ∀ v ∈ (arrA b D).toList, v.oneCell' = true := by
  intro v hv
  simp [arrA] at hv
  rcases hv with rfl | ⟨j, _, rfl⟩ <;> rfl
theorem arr_zero (b : Bool) : (#[.bool b, .int .u64 0, .int .u64 0, .int .u64 0, .int .u64 0, .int .u64 0, .int .u64 0, .int .u64 0, .int .u64 0, .int .u64 0, .int .u64 0, .int .u64 0, .int .u64 0, .int .u64 0, .int .u64 0, .int .u64 0, .int .u64 0] : Array Value) = arrA b (fun _ => 0) := rfl
/-- A long number: its sign, the digits of n. -/
abbrev longV (b : Bool) (n : Nat) : Value := .agg (arrA b (dg n))
/-- The first k digits, then none. -/
def upto (n k j : Nat) : Nat := if j < k then dg n j else 0
theorem upto_next (b : Bool) (n k : Nat) : arrA b (fun j => if j = k then dg n k else upto n k j) = arrA b (upto n (k + 1)) := by
  refine arr_ext fun j _ => ?_
  unfold upto
  by_cases h : j = k
  · subst h; simp
  · by_cases h2 : j < k
    · rw [if_neg h, if_pos h2, if_pos (by omega)]
    · rw [if_neg h, if_neg h2, if_neg (by omega)]
theorem upto_zero (b : Bool) (n : Nat) : arrA b (fun _ => 0) = arrA b (upto n 0) := arr_ext fun j _ => by simp [upto]
theorem upto_all (b : Bool) (n : Nat) : arrA b (upto n 16) = arrA b (dg n) := arr_ext fun j h => by simp [upto, h]
theorem arr_cells {w : World} {g : Nat} {t : TypeId} {b : Bool} {D : Nat → Nat} (h : Blk w g t (arrA b D)) : w.cell? ⟨g, 0, none⟩ = some (.bool b) ∧ w.cell? ⟨g, 1, none⟩ = some (.int .u64 ((D 0 : Nat) : Int)) ∧ w.cell? ⟨g, 2, none⟩ = some (.int .u64 ((D 1 : Nat) : Int)) ∧ w.cell? ⟨g, 3, none⟩ = some (.int .u64 ((D 2 : Nat) : Int)) ∧ w.cell? ⟨g, 4, none⟩ = some (.int .u64 ((D 3 : Nat) : Int)) ∧ w.cell? ⟨g, 5, none⟩ = some (.int .u64 ((D 4 : Nat) : Int)) ∧ w.cell? ⟨g, 6, none⟩ = some (.int .u64 ((D 5 : Nat) : Int)) ∧ w.cell? ⟨g, 7, none⟩ = some (.int .u64 ((D 6 : Nat) : Int)) ∧ w.cell? ⟨g, 8, none⟩ = some (.int .u64 ((D 7 : Nat) : Int)) ∧ w.cell? ⟨g, 9, none⟩ = some (.int .u64 ((D 8 : Nat) : Int)) ∧ w.cell? ⟨g, 10, none⟩ = some (.int .u64 ((D 9 : Nat) : Int)) ∧ w.cell? ⟨g, 11, none⟩ = some (.int .u64 ((D 10 : Nat) : Int)) ∧ w.cell? ⟨g, 12, none⟩ = some (.int .u64 ((D 11 : Nat) : Int)) ∧ w.cell? ⟨g, 13, none⟩ = some (.int .u64 ((D 12 : Nat) : Int)) ∧ w.cell? ⟨g, 14, none⟩ = some (.int .u64 ((D 13 : Nat) : Int)) ∧ w.cell? ⟨g, 15, none⟩ = some (.int .u64 ((D 14 : Nat) : Int)) ∧ w.cell? ⟨g, 16, none⟩ = some (.int .u64 ((D 15 : Nat) : Int)) := by
  refine ⟨(h.cell 0).trans (arr_get0 b D), (h.cell 1).trans (arr_get b D 0 (by omega)), (h.cell 2).trans (arr_get b D 1 (by omega)), (h.cell 3).trans (arr_get b D 2 (by omega)), (h.cell 4).trans (arr_get b D 3 (by omega)), (h.cell 5).trans (arr_get b D 4 (by omega)), (h.cell 6).trans (arr_get b D 5 (by omega)), (h.cell 7).trans (arr_get b D 6 (by omega)), (h.cell 8).trans (arr_get b D 7 (by omega)), (h.cell 9).trans (arr_get b D 8 (by omega)), (h.cell 10).trans (arr_get b D 9 (by omega)), (h.cell 11).trans (arr_get b D 10 (by omega)), (h.cell 12).trans (arr_get b D 11 (by omega)), (h.cell 13).trans (arr_get b D 12 (by omega)), (h.cell 14).trans (arr_get b D 13 (by omega)), (h.cell 15).trans (arr_get b D 14 (by omega)), (h.cell 16).trans (arr_get b D 15 (by omega))⟩
theorem arr_lit (b : Bool) (D : Nat → Nat) : (#[.bool b, .int .u64 ((D 0 : Nat) : Int), .int .u64 ((D 1 : Nat) : Int), .int .u64 ((D 2 : Nat) : Int), .int .u64 ((D 3 : Nat) : Int), .int .u64 ((D 4 : Nat) : Int), .int .u64 ((D 5 : Nat) : Int), .int .u64 ((D 6 : Nat) : Int), .int .u64 ((D 7 : Nat) : Int), .int .u64 ((D 8 : Nat) : Int), .int .u64 ((D 9 : Nat) : Int), .int .u64 ((D 10 : Nat) : Int), .int .u64 ((D 11 : Nat) : Int), .int .u64 ((D 12 : Nat) : Int), .int .u64 ((D 13 : Nat) : Int), .int .u64 ((D 14 : Nat) : Int), .int .u64 ((D 15 : Nat) : Int)] : Array Value) = arrA b D := rfl
end Go.Proofs.Ytedmbebieijofaa
