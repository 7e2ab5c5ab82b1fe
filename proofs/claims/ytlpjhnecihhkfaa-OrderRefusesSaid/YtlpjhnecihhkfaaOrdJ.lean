/-
  The walk of slices.Insert at lines: one line.
-/
import Derived.Test.YtlpjhnecihhkfaaOrdI
import Derived.Shelf.RegionOpenPlain
namespace Go.Proofs.Ytlpjhnecihhkfaa
open Go.RowKit
set_option linter.unusedVariables false
set_option linter.unusedSimpArgs false
def InsPost (w : World) (base : Nat) (A : Option Addr) (n c : Nat) (xs : List Ln) (e : Ending) (w' : World) : Prop :=
  ∃ A' c', e = .returned (.slice A' xs.length c') ∧ w.grownBy w' (Value.slice A n c).ownBlock ∧ OwnLs w' base A' xs c'
theorem rd_one {w : World} {vb : Nat} {l : Ln} (hv : Blk w vb 48 (lncells l)) : RdN w 4 (some ⟨vb, 0, none⟩) 1 (lncells l).toList :=
  ⟨rfl, fun _ => ⟨vb, 0, rfl, fun j u hu => by rw [Nat.zero_add, hv.cell]; simpa using hu⟩⟩
theorem own_cap {w : World} {base : Nat} {A : Option Addr} {c : Nat} {ls : List Ln} (h : OwnLs w base A ls c) : ls.length ≤ c ∧ c ≤ 9223372036854775807 := by
  rcases h.2 with ⟨h1, h2⟩ | ⟨g, cap, cur, h1, h2, h3, h4, h5, _⟩
  · injection h1 with h3 h4 h5
    omega
  · injection h1 with h6 h7 h8
    simp only [maxLen] at h5
    omega
/-- The form of a row that is not empty. -/
theorem own_form {w : World} {base : Nat} {A : Option Addr} {c : Nat} {ls : List Ln} (h : OwnLs w base A ls c) (h0 : 0 < ls.length) : ∃ g cur, A = some ⟨g, 0, none⟩ ∧ base ≤ g ∧ Blk w g 48 cur ∧ cur.size = c * 4 ∧ ∀ j, j < ls.length * 4 → cur[j]? = (lnCells ls)[j]? := by
  rcases h.2 with ⟨h1, h2⟩ | ⟨g, cap, cur, h1, h2, h3, h4, h5, h6, h7⟩
  · omega
  · injection h1 with h8 h9 h10
    subst h8 h10
    refine ⟨g, cur, rfl, h2, h3, h6, fun j hj => ?_⟩
    rw [← h7, List.getElem?_take, if_pos hj, Array.getElem?_toList]
theorem lnCells_take (ls : List Ln) (k : Nat) : lnCells (ls.take k) = (lnCells ls).take (k * 4) := by
  induction ls generalizing k with
  | nil => simp [lnCells]
  | cons l r ih =>
    cases k with
    | zero => simp [lnCells]
    | succ k =>
      rw [List.take_succ_cons]
      show (lncells l).toList ++ lnCells (r.take k) = ((lncells l).toList ++ lnCells r).take ((k + 1) * 4)
      rw [ih, show (k + 1) * 4 = (lncells l).toList.length + k * 4 by simp [lncells]; omega, List.take_length_add_append]
theorem lnCells_drop (ls : List Ln) (k : Nat) : lnCells (ls.drop k) = (lnCells ls).drop (k * 4) := by
  induction ls generalizing k with
  | nil => simp [lnCells]
  | cons l r ih =>
    cases k with
    | zero => simp [lnCells]
    | succ k =>
      rw [List.drop_succ_cons]
      show lnCells (r.drop k) = ((lncells l).toList ++ lnCells r).drop ((k + 1) * 4)
      rw [ih, show (k + 1) * 4 = (lncells l).toList.length + k * 4 by simp [lncells]; omega, List.drop_length_add_append]
/-- The cells of a row into which a line has been laid. -/
theorem ins_cells {X V : List Value} {a : Nat} {cur : Array Value} (ha : a ≤ X.length) (hV : V.length = 4) (h1 : ∀ j, j < a → cur[j]? = X[j]?) (h2 : ∀ j, j < 4 → cur[a + j]? = V[j]?) (h3 : ∀ j, j < X.length - a → cur[a + 4 + j]? = X[a + j]?) :
    cur.toList.take (X.length + 4) = X.take a ++ V ++ X.drop a := by
  apply List.ext_getElem?
  intro j
  have hla : (X.take a).length = a := by rw [List.length_take]; omega
  rw [List.getElem?_take, Array.getElem?_toList]
  rcases Nat.lt_or_ge j a with hj | hj
  · rw [if_pos (by omega), h1 j hj, List.append_assoc, List.getElem?_append_left (by omega), List.getElem?_take, if_pos hj]
  · rcases Nat.lt_or_ge j (a + 4) with hj2 | hj2
    · obtain ⟨i, rfl⟩ : ∃ i, j = a + i := ⟨j - a, by omega⟩
      rw [if_pos (by omega), h2 i (by omega), List.append_assoc, List.getElem?_append_right (by omega), hla, List.getElem?_append_left (by omega)]
      congr 1; omega
    · obtain ⟨i, rfl⟩ : ∃ i, j = a + 4 + i := ⟨j - (a + 4), by omega⟩
      rw [List.getElem?_append_right (by rw [List.length_append]; omega), List.length_append, hla, hV, List.getElem?_drop, show a + (a + 4 + i - (a + 4)) = a + i by omega]
      by_cases hi : i < X.length - a
      · rw [if_pos (by omega), h3 i hi]
      · rw [if_neg (by omega), List.getElem?_eq_none (by omega)]
set_option maxRecDepth 100000 in
set_option maxHeartbeats 2000000 in
theorem insert_end (ls : List Ln) (l : Ln) (A : Option Addr) (c base : Nat) (w : World) (hown : OwnLs w base A ls c) (hlen : ls.length ≤ 16) (vb : Nat) (hv : Blk w vb 48 (lncells l)) (hbase : base ≤ w.heap.size) :
    Calls Try.prog 80 #[.slice A ls.length c, .int .i64 (ls.length : Nat), .slice (some ⟨vb, 0, none⟩) 1 1] w (InsPost w base A ls.length c (ls ++ [l])) := by
  have Hown : Hid (w.ownsRow base 48 4 (.slice A ls.length c) ls.length (lnCells ls)) := Lib.hid hown
  have Hr := Lib.hid (rd_one hv)
  have H1 := Lib.hid (ln_one l)
  have Hc : Hid (lnCells ls ++ (lncells l).toList = lnCells (ls ++ [l])) := Lib.hid (by rw [lnCells_app]; simp [lnCells])
  have hnc := own_cap hown
  have HN : Hid ((ls ++ [l]).length = ls.length + 1) := Lib.hid (by simp)
  clear hown hv
  generalize ls.length = n at *
  have h2 : (n : Int) ≤ (c : Int) := by omega
  go_enter Try.func80, Try.ntmps80
  go_wp2_with (at_builtin; go_must (refine wpL_append rfl (.tmp 23) (.tmp 24) 23 rfl base 48 _ 4 32 Try.underlying23 el_ln (.slice A n c) _ _ rfl Hown.out _ _ _ _ rfl Hr.out H1.out _ _ rfl Hc.out (by simp only [maxLen]; omega) (by omega) hbase ?_); intro v' w' hown' hg' hb')
  all_goals
    go_ret
    obtain ⟨A', c', rfl⟩ := own_slice hown'
    refine ⟨A', c', by rw [HN.out]; rfl, by first | exact hg' | (rename_i h; rw [h] at hg'; exact hg'), ?_⟩
    unfold OwnLs
    rw [HN.out]
    exact hown'
end Go.Proofs.Ytlpjhnecihhkfaa
