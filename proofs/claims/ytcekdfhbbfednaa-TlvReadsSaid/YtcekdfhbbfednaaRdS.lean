/-
  The walk of a reader's Rest: the tags that were not taken, sorted.
-/
import Derived.Test.YtcekdfhbbfednaaRdW
import Derived.Test.YtcekdfhbbfednaaShelf
import Derived.Maps.RangeWalk
import Derived.Sort.OwnSortedInts
namespace Go.Proofs.Ytcekdfhbbfednaa
open Go.RowKit
set_option linter.unusedVariables false
set_option linter.unusedSimpArgs false
open Go.Maps Go.Sort
abbrev ints (l : List Int) : List Value := l.map (Value.int .i64)
abbrev leI : Int → Int → Bool := fun x y => decide (x ≤ y)
theorem el_int : Elem Try.prog 3 (.int .i64 0) 1 8 := ⟨by kernel_rfl, rfl, by decide⟩
theorem sort_is {l T : List Int} (h : l.Perm T) (hT : T.Pairwise (· < ·)) : l.mergeSort leI = T := by
  have tr : ∀ a b c : Int, leI a b = true → leI b c = true → leI a c = true := fun a b c h1 h2 => by simp only [leI, decide_eq_true_eq] at *; omega
  have tot : ∀ a b : Int, (leI a b || leI b a) = true := fun a b => by simp only [leI, Bool.or_eq_true, decide_eq_true_eq]; omega
  refine List.Perm.eq_of_pairwise (le := fun a b => leI a b = true) (fun a b _ _ h1 h2 => ?_) (List.pairwise_mergeSort tr tot l) (hT.imp fun {a b} hab => by simp only [leI, decide_eq_true_eq]; omega) ((List.mergeSort_perm l leI).trans h)
  simp only [leI, decide_eq_true_eq] at h1 h2
  omega
def Coll (D0 : DataW Value) (left : Lit → Bool) (ss : List Int) : Prop := ss.Nodup ∧ ∀ x, x ∈ ss ↔ (Maps.has D0 (tgLit x) = true ∧ left (tgLit x) = false)
theorem Coll.start (D0 : DataW Value) : Coll D0 (Maps.has D0) [] := ⟨List.nodup_nil, fun x => by cases Maps.has D0 (tgLit x) <;> simp⟩
theorem Coll.step {D0 : DataW Value} {left : Lit → Bool} {ss : List Int} (h : Coll D0 left ss) {x : Int} {y : DataW Value} (hlk : left (tgLit x) = true) (hat : ∀ zd, D0.atKey (tgLit x) zd = y) : Coll D0 (fun z => left z && !z.sameKey (tgLit x)) (ss ++ [x]) := by
  have hhas : Maps.has D0 (tgLit x) = true := has_true_of_atKey hat
  have hnew : x ∉ ss := fun hx => by have := ((h.2 x).1 hx).2; rw [hlk] at this; cases this
  refine ⟨List.nodup_append.2 ⟨h.1, by simp, fun a ha b hb => by simp at hb; subst hb; exact fun e => hnew (e ▸ ha)⟩, fun y => ?_⟩
  by_cases hy : y = x
  · subst hy; rw [hhas]; simp [tgLit, Lit.sameKey]
  · have h2 := h.2 y
    simp [h2, hy, tgLit, Lit.sameKey]
def RestPost (w : World) (hs : List Held) (e : Ending) (w' : World) : Prop :=
  ∃ A c, e = .returned (.slice A hs.length c) ∧ Ext w w' ∧ w'.ownsRow w.heap.size 3 1 (.slice A hs.length c) hs.length (ints (hs.map (·.1.tag)))
/-- The library's sort at a slice of ints of the call's own. -/
theorem sort_own (w : World) (base n : Nat) (v : Value) (ss : List Int) (hn : ss.length = n) (hl : n ≤ 4096) (h : w.ownsRow base 3 1 v n (ints ss)) :
    Calls Try.prog 51 #[v] w fun e w' => e = .returned (.tuple #[]) ∧ w.grownBy w' v.ownBlock ∧ w'.ownsRow base 3 1 v n (ints (ss.mergeSort leI)) := by
  subst hn
  rcases h.2 with ⟨rfl, h0⟩ | ⟨g, cap, cur, rfl, hbase, hb, h1, h2, h3, h4⟩
  · obtain rfl : ss = [] := List.eq_nil_of_length_eq_zero h0
    refine (Try.slices_Sort_int_none none 0 w).mono ?_
    rintro e w' ⟨rfl, rfl⟩
    exact ⟨rfl, World.grownBy.refl _ _, by simpa using h⟩
  · have hH := holds_of_blockI (ss := ss) hb (by simpa using h4)
    refine (Try.slices_Sort_int g 0 cap ss w hH (Array.getElem?_eq_some_iff.1 hb).1 (by omega)).mono ?_
    rintro e w' ⟨rfl, n, os, rfl⟩
    exact ⟨rfl, grownBy_sortedI _, ownsRow_sortedI (by simp) hbase hb h1 h2 h3⟩
set_option maxRecDepth 100000 in
set_option maxHeartbeats 8000000 in
theorem rest_any (w : World) (base g b : Nat) (hs : List Held) (bad : Nat) (D : DataW Value) (h : RdX w base g b hs bad D) (hl : hs.length ≤ 31) (hp : (hs.map (·.1.tag)).Pairwise (· < ·)) :
    Calls Try.prog 34 #[.pointer (some ⟨g, 0, none⟩)] w (RestPost w hs) := by
  have k0 : w.cell? ⟨g, 0, none⟩ = some (.map (some b)) := h.blk.cell 0
  obtain ⟨n, hn, hown⟩ := h.own
  obtain ⟨i0, hi, hz0, hz1, hz2⟩ := info_parts el_int.1
  go_enter Try.func34, Try.ntmps34
  go_wp2_with (at_range; refine wpList_range_own _ rfl _ 83 rfl 3 29 key_law Try.underlying83 _ b n D rfl hown ?_; intro w0 hrg0 hg0 hs0)
  go_frame
  have hmp := h.map
  have hbl := hown.lt
  have hsz : Maps.size D = hs.length := hmp.2.1
  clear h
  go_loopw [3] (fun v wr => ∃ (left : Lit → Bool) (cnt : Nat) (ss : List Int), wr.ranges Try.prog 3 tokR b w.heap.size n D left cnt ∧ ss.length + cnt ≤ Maps.size D ∧
      wr.ownsRow w.heap.size 3 1 v ss.length (ints ss) ∧ Coll D left ss ∧ Ext w wr)
    (fun _ wr => wr.rangeLeft b w.heap.size)
  case atStart => exact ⟨_, _, [], hrg0, by simp, World.ownsRow_nil _ _ _ _, Coll.start D, (Below.refl _ _).grown hg0 (Nat.le_refl _) (fun j hj => by cases hj)⟩
  case round =>
    obtain ⟨left, cnt, ss, hrg, hcs, hrow, hC, hnx⟩ := hrel
    go_wp2_with (at_next; refine wpList_next_ranges _ rfl _ rfl 3 key_law tokR (Value.int .i64) (fun v => v) (fun key kl hk => by obtain ⟨x, hx, _⟩ := Maps.keyOf_int_inv Try.underlying3 hk; exact ⟨x, hx⟩) (fun v y hv => ⟨v, rfl⟩) b w.heap.size n _ _ _ rfl hrg ?_ ?_)
    · intro hc0 hl0
      have hperm : ss.Perm (hs.map (·.1.tag)) := by
        refine (List.perm_ext_iff_of_nodup hC.1 hmp.2.2.1).2 fun x => ?_
        rw [hC.2 x, hl0, hmp.2.2.2.1 x, List.any_eq_true]
        simp only [and_true, List.mem_map, decide_eq_true_eq]
      have hlen : ss.length = hs.length := by have := hperm.length_eq; simpa using this
      obtain ⟨A, c, rfl⟩ := own_slice hrow
      have KS := Lib.hid (sort_own wr w.heap.size ss.length _ ss rfl (by omega) hrow)
      have hs2 := Lib.hid (sort_is hperm hp)
      have hL := Lib.hid hlen
      have hlt := Lib.hid fun r hr => (hrow.lt r hr).1
      clear hlen hperm hC hl0 hmp hrow hcs hsz hp
      go_wp2_with (go_at_call 51; (with_reducible refine (KS.out).mono ?_); rintro e w' ⟨rfl, hg', hown'⟩)
      go_ret
      unfold RestPost
      rw [← hL.out, ← hs2.out]
      exact ⟨A, c, rfl, hnx.grown hg' hlt.out, hown'⟩
    · intro x c kl yd yp w2 cnt2 hkey hlk hv hat hrg2 hlt hg2 hs2 hen
      obtain ⟨x', ex, rfl, _⟩ := Maps.keyOf_int_inv Try.underlying3 hkey
      obtain rfl : x = x' := by injection ex
      have hrow2 := hrow.kept hg2 (Or.inr (row_ne_iter hrow hrg).symm)
      clear hs2
      go_wp2_with (at_builtin; refine wpList_append_own _ rfl _ _ 62 rfl w.heap.size 3 i0 (.int .i64 0) 1 8 Try.underlying62 hi hz0 hz1 hz2 rfl (by decide) _ _ _ rfl (hrow2.alloc _) ⟨w2.heap.size, 0, none⟩ 1 1 [.int .i64 x] rfl rfl (cell_one_new _ _ _) (by simp [Value.oneCell']) (by unfold maxLen at *; omega) (by omega) (by have := hnx.size; have := hg2.size; simp; omega) ?_; intro v' w3 hown' hg3 hiff)
      have hrg3 := (hrg2.alloc _).kept hg3 (row_ne_low hrow2 hbl) (row_ne_iter hrow2 hrg2)
      go_roundw
      case rel =>
        refine ⟨_, cnt2, ss ++ [x], hrg3, by simp; omega, by simpa using hown', hC.step hlk hat, ?_⟩
        exact (ExtA (hnx.grown hg2 (fun j hj => by cases hj; exact Nat.le_refl _))).grown hg3 (fun j hj => (hrow2.lt j hj).1)
      case measure => rw [hrg3.left_eq, hrg.left_eq]; exact hlt
end Go.Proofs.Ytcekdfhbbfednaa
