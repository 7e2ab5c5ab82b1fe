/-
  The walk of order.find: a line's place.
-/
/-
  The walks of order.Due, allows.
-/
/-
  The walks of order.amounts.
-/
/-
  The walk of order.Judge.
-/
import Derived.Test.YtipdilmlodakoaaGreatOrdW
import Derived.Handy
import Derived.Deep.RegionHeld3
import Derived.Test.YtipdilmlodakoaaGreatOrdVa
namespace Go.Proofs.YtipdilmlodakoaaGreat
open Go.RowKit
set_option linter.unusedVariables false
set_option linter.unusedSimpArgs false
/-- How many lines stand ahead of an item's. -/
def posOf (item : Int) : List Ln → Nat
  | [] => 0
  | l :: r => if l.item < item then posOf item r + 1 else 0
theorem pos_uniq {item : Int} {ls : List Ln} {i : Nat} (hi : i ≤ ls.length) (h1 : ∀ k (hk : k < i), (ls[k]'(by omega)).item < item) (h2 : ∀ (hk : i < ls.length), item ≤ ls[i].item) : posOf item ls = i := by
  induction ls generalizing i with
  | nil => simp at hi; subst hi; rfl
  | cons l r ih =>
    unfold posOf
    cases i with
    | zero =>
      have := h2 (by simp)
      simp at this
      rw [if_neg (by omega)]
    | succ i =>
      have h0 := h1 0 (by omega)
      simp at h0
      rw [if_pos h0]
      have hi' : i ≤ r.length := by simpa using hi
      rw [ih hi' (fun k hk => by have := h1 (k + 1) (by omega); simpa using this) (fun hk => by have := h2 (by simpa using hk); simpa using this)]
def thereB (item : Int) (ls : List Ln) : Bool := ls.any fun l => decide (l.item = item)
theorem rises_mono {b : Int} {ls : List Ln} (h : risesB b ls = true) {k m : Nat} (hm : m < ls.length) (hk : k < m) : (ls[k]'(by omega)).item < ls[m].item := by
  induction ls generalizing b k m with
  | nil => simp at hm
  | cons l r ih =>
    obtain ⟨_, _, h3⟩ := rises_cons.1 h
    cases m with
    | zero => omega
    | succ m =>
      cases k with
      | zero => simp; exact (rises_mem h3 _ (List.getElem_mem (by simpa using hm))).2
      | succ k => simp; exact ih h3 (by simpa using hm) (by omega)
theorem there_at {item : Int} {ls : List Ln} {i : Nat} (hb : risesB (-1) ls = true) (hi : i < ls.length) (h1 : ∀ k (hk : k < ls.length), k < i → ls[k].item < item) (h2 : item ≤ ls[i].item) : thereB item ls = decide (ls[i].item = item) := by
  rw [Bool.eq_iff_iff]
  simp only [thereB, List.any_eq_true, decide_eq_true_eq]
  constructor
  · rintro ⟨l, hl, he⟩
    obtain ⟨k, hk, rfl⟩ := List.mem_iff_getElem.1 hl
    rcases Nat.lt_trichotomy k i with hki | hki | hki
    · have := h1 k hk hki; omega
    · subst hki; exact he
    · have := rises_mono hb hk hki; omega
  · intro he
    exact ⟨_, List.getElem_mem hi, he⟩
theorem there_none {item : Int} {ls : List Ln} (h1 : ∀ k (hk : k < ls.length), ls[k].item < item) : thereB item ls = false := by
  rw [Bool.eq_false_iff]
  intro h
  simp only [thereB, List.any_eq_true, decide_eq_true_eq] at h
  obtain ⟨l, hl, he⟩ := h
  obtain ⟨k, hk, rfl⟩ := List.mem_iff_getElem.1 hl
  have := h1 k hk; omega
def BsR (W : World) (ls : List Ln) (item : Int) (c9 c10 : Value) (wr : World) : Prop :=
  ∃ i j : Nat, c9 = .int .i64 (i : Nat) ∧ c10 = .int .i64 (j : Nat) ∧ i ≤ j ∧ j ≤ ls.length ∧ (∀ k (hk : k < ls.length), k < i → ls[k].item < item) ∧ (∀ k (hk : k < ls.length), j ≤ k → item ≤ ls[k].item) ∧ Ext W wr
end Go.Proofs.YtipdilmlodakoaaGreat

namespace Go.Proofs.YtipdilmlodakoaaGreat
open Go.RowKit
set_option linter.unusedVariables false
set_option linter.unusedSimpArgs false
theorem valid_tax {s : St} (h : validB s = true) : (∀ l ∈ s.lines, lnB l = true) ∧ s.lines.length ≤ 16 ∧ 0 ≤ s.tax ∧ s.tax ≤ 5000 := by
  have hv := valid_iff.1 h
  exact ⟨fun l hl => (rises_mem hv.rises l hl).1, hv.len, hv.tax.1, hv.tax.2⟩
def allowsB (s : St) (k : Int) : Bool := decide (k ≠ 1) && useB s k
end Go.Proofs.YtipdilmlodakoaaGreat

namespace Go.Proofs.YtipdilmlodakoaaGreat
open Go.RowKit
set_option linter.unusedVariables false
set_option linter.unusedSimpArgs false
def amt (s : St) (e : Ev) : Nat :=
  if ((e.kind = 2 ∨ e.kind = 6 ∨ e.kind = 4) ∧ e.qty = 0) ∨ ((e.kind = 3 ∨ e.kind = 7) ∧ e.price = 0) then 6
  else match lineOf s.lines e.item with
    | none =>
      if e.kind = 6 ∨ e.kind = 4 then 7
      else if e.kind = 2 ∧ s.lines.length = 16 then 9
      else if (e.kind = 3 ∧ due s < s.paid + e.price) ∨ (e.kind = 7 ∧ s.paid < s.refunded + e.price) then 10 else 0
    | some l =>
      if e.kind = 2 ∧ l.price ≠ e.price then 8
      else if (e.kind = 2 ∧ 100000 < l.qty + e.qty) ∨ (e.kind = 6 ∧ l.qty < e.qty) ∨ (e.kind = 4 ∧ l.qty - l.shipped < e.qty) then 10
      else if (e.kind = 3 ∧ due s < s.paid + e.price) ∨ (e.kind = 7 ∧ s.paid < s.refunded + e.price) then 10 else 0
theorem judge_amt (s : St) (e : Ev) : judge s e = if validB s = false ∨ check5 e ≠ 0 ∨ s.events = 1099511627776 then 1
  else if e.order ≠ s.order then 2
  else if s.status = 0 ∧ e.kind ≠ 1 then 3
  else if s.status ≠ 0 ∧ e.kind = 1 then 4
  else if useB s e.kind = false then 5
  else amt s e := rfl
theorem pos_there {item b : Int} {ls : List Ln} (hb : risesB b ls = true) (ht : thereB item ls = true) : ∃ h : posOf item ls < ls.length, (ls[posOf item ls]'h).item = item := by
  induction ls generalizing b with
  | nil => simp [thereB] at ht
  | cons l r ih =>
    obtain ⟨_, _, h3⟩ := rises_cons.1 hb
    simp only [thereB, List.any_cons, Bool.or_eq_true, decide_eq_true_eq] at ht
    by_cases hlt : l.item < item
    · have hp : posOf item (l :: r) = posOf item r + 1 := (if_pos hlt : (if l.item < item then posOf item r + 1 else 0) = _)
      obtain ⟨h, he⟩ := ih h3 (by rcases ht with ht | ht; omega; exact ht)
      refine ⟨by rw [hp]; simp; exact h, ?_⟩
      simp only [hp, List.getElem_cons_succ]
      exact he
    · have hp : posOf item (l :: r) = 0 := (if_neg hlt : (if l.item < item then posOf item r + 1 else 0) = _)
      refine ⟨by rw [hp]; simp, ?_⟩
      simp only [hp, List.getElem_cons_zero]
      rcases ht with ht | ht
      · exact ht
      · obtain ⟨x, hx, he⟩ := List.any_eq_true.1 ht
        have := (rises_mem h3 x hx).2
        simp at he
        omega
theorem line_there {item b : Int} {ls : List Ln} (hb : risesB b ls = true) (ht : thereB item ls = true) : ∃ h : posOf item ls < ls.length, lineOf ls item = some (ls[posOf item ls]'h) := by
  obtain ⟨h, he⟩ := pos_there hb ht
  refine ⟨h, ?_⟩
  cases hl : lineOf ls item with
  | none => exact absurd he (lineOf_none hl _ (List.getElem_mem h))
  | some l => rw [(lineOf_some hl hb).2.2 _ (List.getElem_mem h) he]
theorem line_not {item : Int} {ls : List Ln} (ht : thereB item ls = false) : lineOf ls item = none := by
  unfold lineOf
  rw [List.find?_eq_none]
  intro x hx hc
  have := List.any_eq_false.1 ht x hx
  exact this hc
def lnAt (w : World) (A : Option Addr) (P : Nat) (l : Ln) : Prop := ∃ b o, A = some ⟨b, o, none⟩ ∧ w.rangeAt b (o + P * 4) (lncells l).toList
end Go.Proofs.YtipdilmlodakoaaGreat

namespace Go.Proofs.YtipdilmlodakoaaGreat
open Go.RowKit
set_option linter.unusedVariables false
set_option linter.unusedSimpArgs false
end Go.Proofs.YtipdilmlodakoaaGreat
