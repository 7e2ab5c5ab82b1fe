/-
  Rows of ints laid by make: what they hold is told by a function of the place.
-/
import Derived.Test.YtjomgppbialeoaaGreatShareP
import Derived.Test.YtjomgppbialeoaaGreatNumOrderW
import Derived.Laws.MakeOwn
namespace Go.Proofs.YtjomgppbialeoaaGreat
open Go.RowKit
set_option linter.unusedVariables false
set_option linter.unusedSimpArgs false
def rowA (k : IntKind) (n : Nat) (f : Nat → Nat) : Array Value := ((List.range n).map fun i => Value.int k (f i : Nat)).toArray
theorem rowA_size (k : IntKind) (n : Nat) (f : Nat → Nat) : (rowA k n f).size = n := by simp [rowA]
theorem rowA_get (k : IntKind) (n : Nat) (f : Nat → Nat) (i : Nat) (h : i < n) : (rowA k n f)[i]? = some (.int k (f i : Nat)) := by simp [rowA, h]
theorem rowA_congr (k : IntKind) (n : Nat) (f g : Nat → Nat) (h : ∀ i, i < n → f i = g i) : rowA k n f = rowA k n g := by
  unfold rowA
  congr 1
  exact List.map_congr_left fun i hi => by rw [h i (by simpa using hi)]
theorem rowA_set (k : IntKind) (n : Nat) (f : Nat → Nat) (i x : Nat) (h : i < n) : (rowA k n f).setIfInBounds i (.int k (x : Nat)) = rowA k n (upd f i x) := by
  apply Array.ext_getElem?
  intro j
  rw [Array.getElem?_setIfInBounds]
  by_cases hj : j < n
  · rw [rowA_get _ _ _ j hj, rowA_get _ _ _ j hj]
    by_cases hij : i = j
    · subst hij; rw [if_pos rfl, if_pos (by rw [rowA_size]; exact hj)]; simp [upd]
    · rw [if_neg hij]; simp [upd, Ne.symm hij]
  · by_cases hij : i = j
    · omega
    · rw [if_neg hij]; simp [rowA, hj]
theorem made_row (k : IntKind) (n : Nat) : madeCells #[.int k 0] n = rowA k n (fun _ => 0) := by
  apply Array.ext_getElem?
  intro j
  by_cases hj : j < n
  · rw [rowA_get _ _ _ j hj, Array.getElem?_eq_getElem (by simpa [madeCells] using hj)]
    simp [madeCells, Nat.mod_one]
  · simp [rowA, madeCells, hj]
theorem made_any {P : Program} (t e : TypeId) (k : IntKind) (ht : P.underlying t = some (.slice e)) (i : TypeInfo) (hi : P.info? e = some i) (hz : i.zero = some (.int k 0)) (h1 : i.size = 1) (h8 : i.bytes = 8) (n : Nat) (hn : n ≤ 64) (w : World) :
    (Instr.makeSlice t (.int .i64 (n : Int)) (.int .i64 (n : Int))).run P w = .ok (.slice (some ⟨w.heap.size, 0, none⟩) n n) (w.alloc (.cells (rowA k n fun _ => 0) e)) := by
  have h := run_make (P := P) w t e i (.int k 0) ht hi hz .i64 .i64 n n (by omega) (Int.le_refl _) (by rw [h8]; omega) (by omega)
  rw [h, ← made_row, h1]
  simp [Value.cells]
theorem made_el {P : Program} (t e : TypeId) (k : IntKind) (ht : P.underlying t = some (.slice e)) (he : Elem P e (.int k 0) 1 8) (n : Nat) (hn : n ≤ 64) (w : World) :
    (Instr.makeSlice t (.int .i64 (n : Int)) (.int .i64 (n : Int))).run P w = .ok (.slice (some ⟨w.heap.size, 0, none⟩) n n) (w.alloc (.cells (rowA k n fun _ => 0) e)) := by
  obtain ⟨i, hi, h⟩ := Option.map_eq_some_iff.1 he.1
  simp only [Prod.mk.injEq] at h
  exact made_any t e k ht i hi h.1 h.2.1 h.2.2 n hn w
theorem el_u64 : Elem Tryz.prog 61 (.int .u64 0) 1 8 := ⟨by kernel_rfl, rfl, by decide⟩
def partF (k : Nat) (f : Nat → Nat) : Nat → Nat := fun i => if i < k then f i else 0
theorem part_zero (f : Nat → Nat) : partF 0 f = fun _ => 0 := by funext i; simp [partF]
theorem part_step (f : Nat → Nat) (k : Nat) : upd (partF k f) k (f k) = partF (k + 1) f := by
  funext j
  unfold upd partF
  by_cases h : j = k
  · subst h; simp
  · rw [if_neg h]
    by_cases h2 : j < k
    · rw [if_pos h2, if_pos (by omega)]
    · rw [if_neg h2, if_neg (by omega)]
theorem part_all (kd : IntKind) (n : Nat) (f : Nat → Nat) : rowA kd n (partF n f) = rowA kd n f := rowA_congr _ _ _ _ fun i hi => by simp [partF, hi]
def BAD : Ending := .returned (.tuple #[.slice none 0 0, .bool false])
def shOk (t : Int) (l : List Int) : Prop := 0 ≤ t ∧ l.length ≤ 64 ∧ NonNeg l ∧ sumFits l = true ∧ sumOf l ≠ 0
theorem ok_sum (t : Int) (l : List Int) (hl : I64 l) (h : shOk t l) : sumOf l = (shS l : Int) ∧ 0 < shS l ∧ shS l < 9223372036854775808 := by
  obtain ⟨_, h2, h3, h4, h5⟩ := h
  have e1 := sumOf_eq l hl (by omega)
  have e2 := sumFits_eq l hl (by omega)
  have e3 := shS_sum l h3
  rw [h4] at e2
  have e4 : sumOf l = l.sum := by rw [e1]; unfold nf; rw [← e2]; rfl
  rw [e3] at e4
  refine ⟨e4, ?_, ?_⟩
  · rw [e4] at h5; omega
  · unfold fits64 at e2
    rw [e3] at e2
    simp at e2
    omega
end Go.Proofs.YtjomgppbialeoaaGreat
