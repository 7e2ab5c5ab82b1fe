/-
  The walk of order.find: a line's place.
-/
import Derived.Test.YtlpjhnecihhkfaaOrdW
import Derived.Handy
import Derived.Deep.RegionHeld3
namespace Go.Proofs.Ytlpjhnecihhkfaa
open Go.RowKit
set_option linter.unusedVariables false
set_option linter.unusedSimpArgs false
/-- How many lines stand ahead of an item's. -/
def posOf (item : Int) : List Ln → Nat
  | [] => 0
  | l :: r => if l.item < item then posOf item r + 1 else 0
theorem pos_uniq {item : Int} {ls : List Ln} {i : Nat} (hi : i ≤ ls.length) (h1 : ∀ k (hk : k < i), (ls[k]'(by omega)).item < item) (h2 : ∀ (hk : i < ls.length), item ≤ ls[i].item) : posOf item ls = i := by
  induction ls generalizing i with
  | nil => simp at hi; subst hi; rfl
  | cons l r ih =>
    unfold posOf
    cases i with
    | zero =>
      have := h2 (by simp)
      simp at this
      rw [if_neg (by omega)]
    | succ i =>
      have h0 := h1 0 (by omega)
      simp at h0
      rw [if_pos h0]
      have hi' : i ≤ r.length := by simpa using hi
      rw [ih hi' (fun k hk => by have := h1 (k + 1) (by omega); simpa using this) (fun hk => by have := h2 (by simpa using hk); simpa using this)]
def thereB (item : Int) (ls : List Ln) : Bool := ls.any fun l => decide (l.item = item)
theorem rises_mono {b : Int} {ls : List Ln} (h : risesB b ls = true) {k m : Nat} (hm : m < ls.length) (hk : k < m) : (ls[k]'(by omega)).item < ls[m].item := by
  induction ls generalizing b k m with
  | nil => simp at hm
  | cons l r ih =>
    obtain ⟨_, _, h3⟩ := rises_cons.1 h
    cases m with
    | zero => omega
    | succ m =>
      cases k with
      | zero => simp; exact (rises_mem h3 _ (List.getElem_mem (by simpa using hm))).2
      | succ k => simp; exact ih h3 (by simpa using hm) (by omega)
theorem there_at {item : Int} {ls : List Ln} {i : Nat} (hb : risesB (-1) ls = true) (hi : i < ls.length) (h1 : ∀ k (hk : k < ls.length), k < i → ls[k].item < item) (h2 : item ≤ ls[i].item) : thereB item ls = decide (ls[i].item = item) := by
  rw [Bool.eq_iff_iff]
  simp only [thereB, List.any_eq_true, decide_eq_true_eq]
  constructor
  · rintro ⟨l, hl, he⟩
    obtain ⟨k, hk, rfl⟩ := List.mem_iff_getElem.1 hl
    rcases Nat.lt_trichotomy k i with hki | hki | hki
    · have := h1 k hk hki; omega
    · subst hki; exact he
    · have := rises_mono hb hk hki; omega
  · intro he
    exact ⟨_, List.getElem_mem hi, he⟩
theorem there_none {item : Int} {ls : List Ln} (h1 : ∀ k (hk : k < ls.length), ls[k].item < item) : thereB item ls = false := by
  rw [Bool.eq_false_iff]
  intro h
  simp only [thereB, List.any_eq_true, decide_eq_true_eq] at h
  obtain ⟨l, hl, he⟩ := h
  obtain ⟨k, hk, rfl⟩ := List.mem_iff_getElem.1 hl
  have := h1 k hk; omega
theorem findfn_any (l : Ln) (item : Int) (w : World) (h1 : 0 ≤ l.item ∧ l.item ≤ 65535) (h2 : -9223372036854710000 ≤ item ∧ item ≤ 9223372036854775807) :
    Calls Try.prog 72 #[.agg (lncells l), .int .i64 item] w fun e w' => e = .returned (.int .i64 (l.item - item)) ∧ Ext w w' := by
  obtain ⟨li, lp, lq, lsh⟩ := l
  unfold lncells
  dsimp only at *
  go_enter Try.func72, Try.ntmps72
  go_wp2_with fail
  go_ret
  exact ⟨by go_num, exA⟩
def BsR (W : World) (ls : List Ln) (item : Int) (c9 c10 : Value) (wr : World) : Prop :=
  ∃ i j : Nat, c9 = .int .i64 (i : Nat) ∧ c10 = .int .i64 (j : Nat) ∧ i ≤ j ∧ j ≤ ls.length ∧ (∀ k (hk : k < ls.length), k < i → ls[k].item < item) ∧ (∀ k (hk : k < ls.length), j ≤ k → item ≤ ls[k].item) ∧ Ext W wr
set_option maxRecDepth 100000 in
set_option maxHeartbeats 2000000 in
theorem bsearch_any (ls : List Ln) (item : Int) (A : Option Addr) (c : Nat) (w : World) (hr : LsRd w A ls) (hn : ls.length ≤ 16) (hb : risesB (-1) ls = true) (h2 : 0 ≤ item ∧ item ≤ 65535) :
    Calls Try.prog 71 #[.slice A ls.length c, .int .i64 item, .func (.func 72) #[] #[]] w fun e w' => e = .returned (.tuple #[.int .i64 (posOf item ls : Nat), .bool (thereB item ls)]) ∧ Ext w w' := by
  obtain ⟨n, hnn⟩ : ∃ n, n = ls.length := ⟨_, rfl⟩
  rw [← hnn] at hn ⊢
  have HN := Lib.hid hnn
  clear hnn
  go_enter Try.func71, Try.ntmps71
  go_wp2_with fail
  go_loopw [9, 10] (fun c9 c10 wr => BsR w ls item c9 c10 wr) (fun c9 c10 _ => (intOf c10 - intOf c9).toNat)
  case atStart => exact ⟨0, n, rfl, rfl, by omega, by have := HN.out; omega, fun k _ hk => by omega, fun k hk1 hk2 => by have := HN.out; omega, exA⟩
  case round =>
    obtain ⟨i, j, rfl, rfl, hij, hjn, hlo, hhi, hx⟩ := hrel
    rw [← HN.out] at hjn
    have Hlo := Lib.hid hlo
    have Hhi := Lib.hid hhi
    clear hlo hhi
    by_cases hlt : i < j
    · have hhn : (i + j) / 2 < n := by omega
      obtain ⟨b, o, rfl, hc⟩ := ls_at hr (show (i + j) / 2 < ls.length by rw [← HN.out]; exact hhn)
      have Hc := Lib.hid (range_ext hc hx)
      have hlb := Lib.hid (rises_mem hb _ (List.getElem_mem (show (i + j) / 2 < ls.length by rw [← HN.out]; exact hhn))).1
      have K1 := Lib.hid fun W (h : 0 ≤ (ls[(i + j) / 2]'(by rw [← HN.out]; exact hhn)).item ∧ (ls[(i + j) / 2]'(by rw [← HN.out]; exact hhn)).item ≤ 65535) => findfn_any (ls[(i + j) / 2]'(by rw [← HN.out]; exact hhn)) item W h (by omega)
      have HL : Hid (∃ l, l = ls[(i + j) / 2]'(by rw [← HN.out]; exact hhn)) := Lib.hid ⟨_, rfl⟩
      obtain ⟨l, hl⟩ := HL.out
      rw [← hl] at K1 Hc hlb
      have HL2 := Lib.hid hl
      clear hl HL hc
      have hli := (lnB_iff.1 hlb.out).1
      have K1 := Lib.hid fun W => K1.out W hli
      obtain ⟨li, lp, lq, lsh⟩ := l
      unfold lncells at Hc K1
      dsimp only at Hc K1 hli
      have e0 : wr.cell? ⟨b, o + (i + j) / 2 * 4, none⟩ = some (.int .i64 li) := Hc.out 0 _ rfl
      have e1 : wr.cell? ⟨b, o + (i + j) / 2 * 4 + 1, none⟩ = some (.int .i64 lp) := Hc.out 1 _ rfl
      have e2 : wr.cell? ⟨b, o + (i + j) / 2 * 4 + 2, none⟩ = some (.int .i64 lq) := Hc.out 2 _ rfl
      have e3 : wr.cell? ⟨b, o + (i + j) / 2 * 4 + 3, none⟩ = some (.int .i64 lsh) := Hc.out 3 _ rfl
      go_wp2_with (go_at_call 72; go_must (with_reducible refine (K1.out _).mono ?_); rintro e w1 ⟨rfl, hx1⟩)
      · refine And.intro ?_ ?_
        · refine ⟨(i + j) / 2 + 1, j, by go_num, rfl, by omega, by have := HN.out; omega, fun k hk hki => ?_, Hhi.out, exA⟩
          have hl2 := HL2.out
          by_cases hkm : k = (i + j) / 2
          · subst hkm; rw [← hl2]; dsimp only; omega
          · have := rises_mono hb (show (i + j) / 2 < ls.length by rw [← HN.out]; exact hhn) (show k < (i + j) / 2 by omega)
            rw [← hl2] at this; dsimp only at this; omega
        · simp [intOf]; omega
      · refine And.intro ?_ ?_
        · refine ⟨i, (i + j) / 2, rfl, by go_num, by omega, by have := HN.out; omega, Hlo.out, fun k hk hki => ?_, exA⟩
          have hl2 := HL2.out
          by_cases hkm : k = (i + j) / 2
          · subst hkm; rw [← hl2]; dsimp only; omega
          · have := rises_mono hb hk (show (i + j) / 2 < k by omega)
            rw [← hl2] at this; dsimp only at this; omega
        · simp [intOf]; omega
    · obtain rfl : i = j := by omega
      by_cases hin : i < n
      · obtain ⟨b, o, rfl, hc⟩ := ls_at hr (show i < ls.length by rw [← HN.out]; exact hin)
        have Hc := Lib.hid (range_ext hc hx)
        have hli := (lnB_iff.1 (rises_mem hb _ (List.getElem_mem (show i < ls.length by rw [← HN.out]; exact hin))).1).1
        have K1 := Lib.hid fun W => findfn_any (ls[i]'(by rw [← HN.out]; exact hin)) item W hli (by omega)
        have Hp : Hid (posOf item ls = i) := Lib.hid (pos_uniq (by rw [← HN.out]; exact hjn) (fun k hk => Hlo.out k (by have := HN.out; omega) hk) (fun hk => Hhi.out i hk (Nat.le_refl _)))
        have Ht := Lib.hid (there_at hb (show i < ls.length by rw [← HN.out]; exact hin) Hlo.out (Hhi.out i (by rw [← HN.out]; exact hin) (Nat.le_refl _)))
        clear hc
        generalize ls[i]'(by rw [← HN.out]; exact hin) = l at *
        obtain ⟨li, lp, lq, lsh⟩ := l
        unfold lncells at Hc K1
        dsimp only at Hc K1 hli
        have e0 : wr.cell? ⟨b, o + i * 4, none⟩ = some (.int .i64 li) := Hc.out 0 _ rfl
        have e1 : wr.cell? ⟨b, o + i * 4 + 1, none⟩ = some (.int .i64 lp) := Hc.out 1 _ rfl
        have e2 : wr.cell? ⟨b, o + i * 4 + 2, none⟩ = some (.int .i64 lq) := Hc.out 2 _ rfl
        have e3 : wr.cell? ⟨b, o + i * 4 + 3, none⟩ = some (.int .i64 lsh) := Hc.out 3 _ rfl
        go_wp2_with (go_at_call 72; go_must (with_reducible refine (K1.out _).mono ?_); rintro e w1 ⟨rfl, hx1⟩)
        go_ret2
        exact ⟨by rw [Hp.out, Ht.out, show decide (li = item) = (li - item == 0) by rw [Bool.eq_iff_iff]; simp; omega]; rfl, exA⟩
      · obtain rfl : i = n := by omega
        have Hp : Hid (posOf item ls = i) := Lib.hid (pos_uniq (by rw [← HN.out]; exact hjn) (fun k hk => Hlo.out k (by have := HN.out; omega) hk) (fun hk => by have := HN.out; omega))
        have Ht : Hid (thereB item ls = false) := Lib.hid (there_none fun k hk => Hlo.out k hk (by have := HN.out; omega))
        go_wp2_with fail
        go_ret2
        exact ⟨by rw [Hp.out, Ht.out]; rfl, exA⟩
set_option maxRecDepth 100000 in
set_option maxHeartbeats 2000000 in
theorem find_any (s : St) (item : Int) (A : Option Addr) (c : Nat) (w : World) (hr : LsRd w A s.lines) (hn : s.lines.length ≤ 16) (hb : risesB (-1) s.lines = true) (h2 : 0 ≤ item ∧ item ≤ 65535) :
    Calls Try.prog 50 #[.agg (stcells s A c), .int .i64 item] w fun e w' => e = .returned (.tuple #[.int .i64 (posOf item s.lines : Nat), .bool (thereB item s.lines)]) ∧ Ext w w' := by
  have K1 := Lib.hid fun W (h : LsRd W A s.lines) => bsearch_any s.lines item A c W h hn hb h2
  generalize posOf item s.lines = P at *
  generalize thereB item s.lines = T at *
  unfold stcells
  generalize s.lines.length = n at *
  go_enter Try.func50, Try.ntmps50
  go_wp2_with (go_at_call 71; (with_reducible refine (K1.out _ (hr.ext exA)).mono ?_); rintro e w1 ⟨rfl, hx1⟩)
  go_ret2
  exact ⟨rfl, exA⟩
end Go.Proofs.Ytlpjhnecihhkfaa
