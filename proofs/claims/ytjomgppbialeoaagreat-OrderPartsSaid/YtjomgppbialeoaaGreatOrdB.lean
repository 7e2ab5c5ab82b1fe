/-
  The walk of order.find: a line's place.
-/
/-
  The walks of order.Due, allows.
-/
/-
  The walks of order.amounts.
-/
/-
  The walk of order.Judge.
-/
import Derived.Test.YtjomgppbialeoaaGreatOrdW
import Derived.Handy
import Derived.Deep.RegionHeld3
import Derived.Test.YtjomgppbialeoaaGreatOrdVa
namespace Go.Proofs.YtjomgppbialeoaaGreat
open Go.RowKit
set_option linter.unusedVariables false
set_option linter.unusedSimpArgs false
/-- How many lines stand ahead of an item's. -/
def posOf (item : Int) : List Ln → Nat
  | [] => 0
  | l :: r => if l.item < item then posOf item r + 1 else 0
theorem pos_uniq {item : Int} {ls : List Ln} {i : Nat} (hi : i ≤ ls.length) (h1 : ∀ k (hk : k < i), (ls[k]'(by omega)).item < item) (h2 : ∀ (hk : i < ls.length), item ≤ ls[i].item) : posOf item ls = i := by
  induction ls generalizing i with
  | nil => simp at hi; subst hi; rfl
  | cons l r ih =>
    unfold posOf
    cases i with
    | zero =>
      have := h2 (by simp)
      simp at this
      rw [if_neg (by omega)]
    | succ i =>
      have h0 := h1 0 (by omega)
      simp at h0
      rw [if_pos h0]
      have hi' : i ≤ r.length := by simpa using hi
      rw [ih hi' (fun k hk => by have := h1 (k + 1) (by omega); simpa using this) (fun hk => by have := h2 (by simpa using hk); simpa using this)]
def thereB (item : Int) (ls : List Ln) : Bool := ls.any fun l => decide (l.item = item)
theorem rises_mono {b : Int} {ls : List Ln} (h : risesB b ls = true) {k m : Nat} (hm : m < ls.length) (hk : k < m) : (ls[k]'(by omega)).item < ls[m].item := by
  induction ls generalizing b k m with
  | nil => simp at hm
  | cons l r ih =>
    obtain ⟨_, _, h3⟩ := rises_cons.1 h
    cases m with
    | zero => omega
    | succ m =>
      cases k with
      | zero => simp; exact (rises_mem h3 _ (List.getElem_mem (by simpa using hm))).2
      | succ k => simp; exact ih h3 (by simpa using hm) (by omega)
theorem there_at {item : Int} {ls : List Ln} {i : Nat} (hb : risesB (-1) ls = true) (hi : i < ls.length) (h1 : ∀ k (hk : k < ls.length), k < i → ls[k].item < item) (h2 : item ≤ ls[i].item) : thereB item ls = decide (ls[i].item = item) := by
  rw [Bool.eq_iff_iff]
  simp only [thereB, List.any_eq_true, decide_eq_true_eq]
  constructor
  · rintro ⟨l, hl, he⟩
    obtain ⟨k, hk, rfl⟩ := List.mem_iff_getElem.1 hl
    rcases Nat.lt_trichotomy k i with hki | hki | hki
    · have := h1 k hk hki; omega
    · subst hki; exact he
    · have := rises_mono hb hk hki; omega
  · intro he
    exact ⟨_, List.getElem_mem hi, he⟩
theorem there_none {item : Int} {ls : List Ln} (h1 : ∀ k (hk : k < ls.length), ls[k].item < item) : thereB item ls = false := by
  rw [Bool.eq_false_iff]
  intro h
  simp only [thereB, List.any_eq_true, decide_eq_true_eq] at h
  obtain ⟨l, hl, he⟩ := h
  obtain ⟨k, hk, rfl⟩ := List.mem_iff_getElem.1 hl
  have := h1 k hk; omega
theorem findfn_any (l : Ln) (item : Int) (w : World) (h1 : 0 ≤ l.item ∧ l.item ≤ 65535) (h2 : -9223372036854710000 ≤ item ∧ item ≤ 9223372036854775807) :
    Calls Tryz.prog 78 #[.agg (lncells l), .int .i64 item] w fun e w' => e = .returned (.int .i64 (l.item - item)) ∧ Ext w w' := by
  obtain ⟨li, lp, lq, lsh⟩ := l
  unfold lncells
  dsimp only at *
  go_enter Tryz.func78, Tryz.ntmps78
  go_wp2_with fail
  go_ret
  exact ⟨by go_num, (by repeat (first | with_reducible exact Below.refl _ _ | with_reducible assumption | with_reducible refine ExtD ?_ | with_reducible refine ExtDN ?_ | with_reducible refine ExtA ?_ | (with_reducible refine ExtR ?_ ?_; (first | omega | (dsimp only; omega) | (simp; done) | (simp; omega))) | (with_reducible refine ExtS ?_ ?_; (first | omega | (dsimp only; omega) | (simp; done) | (simp; omega))) | with_reducible refine Ext.tr ?_ (by with_reducible assumption)))⟩
def BsR (W : World) (ls : List Ln) (item : Int) (c9 c10 : Value) (wr : World) : Prop :=
  ∃ i j : Nat, c9 = .int .i64 (i : Nat) ∧ c10 = .int .i64 (j : Nat) ∧ i ≤ j ∧ j ≤ ls.length ∧ (∀ k (hk : k < ls.length), k < i → ls[k].item < item) ∧ (∀ k (hk : k < ls.length), j ≤ k → item ≤ ls[k].item) ∧ Ext W wr
set_option maxRecDepth 100000 in
set_option maxHeartbeats 2000000 in
theorem bsearch_any (ls : List Ln) (item : Int) (A : Option Addr) (c : Nat) (w : World) (hr : LsRd w A ls) (hn : ls.length ≤ 16) (hb : risesB (-1) ls = true) (h2 : 0 ≤ item ∧ item ≤ 65535) :
    Calls Tryz.prog 77 #[.slice A ls.length c, .int .i64 item, .func (.func 78) #[] #[]] w fun e w' => e = .returned (.tuple #[.int .i64 (posOf item ls : Nat), .bool (thereB item ls)]) ∧ Ext w w' := by
  obtain ⟨n, hnn⟩ : ∃ n, n = ls.length := ⟨_, rfl⟩
  rw [← hnn] at hn ⊢
  have HN := Lib.hid hnn
  clear hnn
  go_enter Tryz.func77, Tryz.ntmps77
  go_wp2_with fail
  go_loopw [9, 10] (fun c9 c10 wr => BsR w ls item c9 c10 wr) (fun c9 c10 _ => (intOf c10 - intOf c9).toNat)
  case atStart => exact ⟨0, n, rfl, rfl, by omega, by have := HN.out; omega, fun k _ hk => by omega, fun k hk1 hk2 => by have := HN.out; omega, (by repeat (first | with_reducible exact Below.refl _ _ | with_reducible assumption | with_reducible refine ExtD ?_ | with_reducible refine ExtDN ?_ | with_reducible refine ExtA ?_ | (with_reducible refine ExtR ?_ ?_; (first | omega | (dsimp only; omega) | (simp; done) | (simp; omega))) | (with_reducible refine ExtS ?_ ?_; (first | omega | (dsimp only; omega) | (simp; done) | (simp; omega))) | with_reducible refine Ext.tr ?_ (by with_reducible assumption)))⟩
  case round =>
    obtain ⟨i, j, rfl, rfl, hij, hjn, hlo, hhi, hx⟩ := hrel
    rw [← HN.out] at hjn
    have Hlo := Lib.hid hlo
    have Hhi := Lib.hid hhi
    clear hlo hhi
    by_cases hlt : i < j
    · have hhn : (i + j) / 2 < n := by omega
      obtain ⟨b, o, rfl, hc⟩ := ls_at hr (show (i + j) / 2 < ls.length by rw [← HN.out]; exact hhn)
      have Hc := Lib.hid (range_ext hc hx)
      have hlb := Lib.hid (rises_mem hb _ (List.getElem_mem (show (i + j) / 2 < ls.length by rw [← HN.out]; exact hhn))).1
      have K1 := Lib.hid fun W (h : 0 ≤ (ls[(i + j) / 2]'(by rw [← HN.out]; exact hhn)).item ∧ (ls[(i + j) / 2]'(by rw [← HN.out]; exact hhn)).item ≤ 65535) => findfn_any (ls[(i + j) / 2]'(by rw [← HN.out]; exact hhn)) item W h (by omega)
      have HL : Hid (∃ l, l = ls[(i + j) / 2]'(by rw [← HN.out]; exact hhn)) := Lib.hid ⟨_, rfl⟩
      obtain ⟨l, hl⟩ := HL.out
      rw [← hl] at K1 Hc hlb
      have HL2 := Lib.hid hl
      clear hl HL hc
      have hli := (lnB_iff.1 hlb.out).1
      have K1 := Lib.hid fun W => K1.out W hli
      obtain ⟨li, lp, lq, lsh⟩ := l
      unfold lncells at Hc K1
      dsimp only at Hc K1 hli
      have e0 : wr.cell? ⟨b, o + (i + j) / 2 * 4, none⟩ = some (.int .i64 li) := Hc.out 0 _ rfl
      have e1 : wr.cell? ⟨b, o + (i + j) / 2 * 4 + 1, none⟩ = some (.int .i64 lp) := Hc.out 1 _ rfl
      have e2 : wr.cell? ⟨b, o + (i + j) / 2 * 4 + 2, none⟩ = some (.int .i64 lq) := Hc.out 2 _ rfl
      have e3 : wr.cell? ⟨b, o + (i + j) / 2 * 4 + 3, none⟩ = some (.int .i64 lsh) := Hc.out 3 _ rfl
      go_wp2_with (go_at_call 78; go_must (with_reducible refine (K1.out _).mono ?_); rintro e w1 ⟨rfl, hx1⟩)
      · refine And.intro ?_ ?_
        · refine ⟨(i + j) / 2 + 1, j, by go_num, rfl, by omega, by have := HN.out; omega, fun k hk hki => ?_, Hhi.out, (by repeat (first | with_reducible exact Below.refl _ _ | with_reducible assumption | with_reducible refine ExtD ?_ | with_reducible refine ExtDN ?_ | with_reducible refine ExtA ?_ | (with_reducible refine ExtR ?_ ?_; (first | omega | (dsimp only; omega) | (simp; done) | (simp; omega))) | (with_reducible refine ExtS ?_ ?_; (first | omega | (dsimp only; omega) | (simp; done) | (simp; omega))) | with_reducible refine Ext.tr ?_ (by with_reducible assumption)))⟩
          have hl2 := HL2.out
          by_cases hkm : k = (i + j) / 2
          · subst hkm; rw [← hl2]; dsimp only; omega
          · have := rises_mono hb (show (i + j) / 2 < ls.length by rw [← HN.out]; exact hhn) (show k < (i + j) / 2 by omega)
            rw [← hl2] at this; dsimp only at this; omega
        · simp [intOf]; omega
      · refine And.intro ?_ ?_
        · refine ⟨i, (i + j) / 2, rfl, by go_num, by omega, by have := HN.out; omega, Hlo.out, fun k hk hki => ?_, (by repeat (first | with_reducible exact Below.refl _ _ | with_reducible assumption | with_reducible refine ExtD ?_ | with_reducible refine ExtDN ?_ | with_reducible refine ExtA ?_ | (with_reducible refine ExtR ?_ ?_; (first | omega | (dsimp only; omega) | (simp; done) | (simp; omega))) | (with_reducible refine ExtS ?_ ?_; (first | omega | (dsimp only; omega) | (simp; done) | (simp; omega))) | with_reducible refine Ext.tr ?_ (by with_reducible assumption)))⟩
          have hl2 := HL2.out
          by_cases hkm : k = (i + j) / 2
          · subst hkm; rw [← hl2]; dsimp only; omega
          · have := rises_mono hb hk (show (i + j) / 2 < k by omega)
            rw [← hl2] at this; dsimp only at this; omega
        · simp [intOf]; omega
    · obtain rfl : i = j := by omega
      by_cases hin : i < n
      · obtain ⟨b, o, rfl, hc⟩ := ls_at hr (show i < ls.length by rw [← HN.out]; exact hin)
        have Hc := Lib.hid (range_ext hc hx)
        have hli := (lnB_iff.1 (rises_mem hb _ (List.getElem_mem (show i < ls.length by rw [← HN.out]; exact hin))).1).1
        have K1 := Lib.hid fun W => findfn_any (ls[i]'(by rw [← HN.out]; exact hin)) item W hli (by omega)
        have Hp : Hid (posOf item ls = i) := Lib.hid (pos_uniq (by rw [← HN.out]; exact hjn) (fun k hk => Hlo.out k (by have := HN.out; omega) hk) (fun hk => Hhi.out i hk (Nat.le_refl _)))
        have Ht := Lib.hid (there_at hb (show i < ls.length by rw [← HN.out]; exact hin) Hlo.out (Hhi.out i (by rw [← HN.out]; exact hin) (Nat.le_refl _)))
        clear hc
        generalize ls[i]'(by rw [← HN.out]; exact hin) = l at *
        obtain ⟨li, lp, lq, lsh⟩ := l
        unfold lncells at Hc K1
        dsimp only at Hc K1 hli
        have e0 : wr.cell? ⟨b, o + i * 4, none⟩ = some (.int .i64 li) := Hc.out 0 _ rfl
        have e1 : wr.cell? ⟨b, o + i * 4 + 1, none⟩ = some (.int .i64 lp) := Hc.out 1 _ rfl
        have e2 : wr.cell? ⟨b, o + i * 4 + 2, none⟩ = some (.int .i64 lq) := Hc.out 2 _ rfl
        have e3 : wr.cell? ⟨b, o + i * 4 + 3, none⟩ = some (.int .i64 lsh) := Hc.out 3 _ rfl
        go_wp2_with (go_at_call 78; go_must (with_reducible refine (K1.out _).mono ?_); rintro e w1 ⟨rfl, hx1⟩)
        go_ret2
        exact ⟨by rw [Hp.out, Ht.out, show decide (li = item) = (li - item == 0) by rw [Bool.eq_iff_iff]; simp; omega]; rfl, (by repeat (first | with_reducible exact Below.refl _ _ | with_reducible assumption | with_reducible refine ExtD ?_ | with_reducible refine ExtDN ?_ | with_reducible refine ExtA ?_ | (with_reducible refine ExtR ?_ ?_; (first | omega | (dsimp only; omega) | (simp; done) | (simp; omega))) | (with_reducible refine ExtS ?_ ?_; (first | omega | (dsimp only; omega) | (simp; done) | (simp; omega))) | with_reducible refine Ext.tr ?_ (by with_reducible assumption)))⟩
      · obtain rfl : i = n := by omega
        have Hp : Hid (posOf item ls = i) := Lib.hid (pos_uniq (by rw [← HN.out]; exact hjn) (fun k hk => Hlo.out k (by have := HN.out; omega) hk) (fun hk => by have := HN.out; omega))
        have Ht : Hid (thereB item ls = false) := Lib.hid (there_none fun k hk => Hlo.out k hk (by have := HN.out; omega))
        go_wp2_with fail
        go_ret2
        exact ⟨by rw [Hp.out, Ht.out]; rfl, (by repeat (first | with_reducible exact Below.refl _ _ | with_reducible assumption | with_reducible refine ExtD ?_ | with_reducible refine ExtDN ?_ | with_reducible refine ExtA ?_ | (with_reducible refine ExtR ?_ ?_; (first | omega | (dsimp only; omega) | (simp; done) | (simp; omega))) | (with_reducible refine ExtS ?_ ?_; (first | omega | (dsimp only; omega) | (simp; done) | (simp; omega))) | with_reducible refine Ext.tr ?_ (by with_reducible assumption)))⟩
set_option maxRecDepth 100000 in
set_option maxHeartbeats 2000000 in
theorem find_any (s : St) (item : Int) (A : Option Addr) (c : Nat) (w : World) (hr : LsRd w A s.lines) (hn : s.lines.length ≤ 16) (hb : risesB (-1) s.lines = true) (h2 : 0 ≤ item ∧ item ≤ 65535) :
    Calls Tryz.prog 71 #[.agg (stcells s A c), .int .i64 item] w fun e w' => e = .returned (.tuple #[.int .i64 (posOf item s.lines : Nat), .bool (thereB item s.lines)]) ∧ Ext w w' := by
  have K1 := Lib.hid fun W (h : LsRd W A s.lines) => bsearch_any s.lines item A c W h hn hb h2
  generalize posOf item s.lines = P at *
  generalize thereB item s.lines = T at *
  unfold stcells
  generalize s.lines.length = n at *
  go_enter Tryz.func71, Tryz.ntmps71
  go_wp2_with (go_at_call 77; (with_reducible refine (K1.out _ (hr.ext (by repeat (first | with_reducible exact Below.refl _ _ | with_reducible assumption | with_reducible refine ExtD ?_ | with_reducible refine ExtDN ?_ | with_reducible refine ExtA ?_ | (with_reducible refine ExtR ?_ ?_; (first | omega | (dsimp only; omega) | (simp; done) | (simp; omega))) | (with_reducible refine ExtS ?_ ?_; (first | omega | (dsimp only; omega) | (simp; done) | (simp; omega))) | with_reducible refine Ext.tr ?_ (by with_reducible assumption))))).mono ?_); rintro e w1 ⟨rfl, hx1⟩)
  go_ret2
  exact ⟨rfl, (by repeat (first | with_reducible exact Below.refl _ _ | with_reducible assumption | with_reducible refine ExtD ?_ | with_reducible refine ExtDN ?_ | with_reducible refine ExtA ?_ | (with_reducible refine ExtR ?_ ?_; (first | omega | (dsimp only; omega) | (simp; done) | (simp; omega))) | (with_reducible refine ExtS ?_ ?_; (first | omega | (dsimp only; omega) | (simp; done) | (simp; omega))) | with_reducible refine Ext.tr ?_ (by with_reducible assumption)))⟩
end Go.Proofs.YtjomgppbialeoaaGreat

namespace Go.Proofs.YtjomgppbialeoaaGreat
open Go.RowKit
set_option linter.unusedVariables false
set_option linter.unusedSimpArgs false
theorem valid_tax {s : St} (h : validB s = true) : (∀ l ∈ s.lines, lnB l = true) ∧ s.lines.length ≤ 16 ∧ 0 ≤ s.tax ∧ s.tax ≤ 5000 := by
  have hv := valid_iff.1 h
  exact ⟨fun l hl => (rises_mem hv.rises l hl).1, hv.len, hv.tax.1, hv.tax.2⟩
set_option maxRecDepth 100000 in
set_option maxHeartbeats 2000000 in
theorem pdue_any (s : St) (A : Option Addr) (c : Nat) (w : World) (hr : LsRd w A s.lines) (hn : s.lines.length ≤ 4611686018427387904) (hw : s.who.size ≤ 4611686018427387904) :
    Calls Tryz.prog 8 #[.agg (stcells s A c)] w fun e w' => e = .returned (.tuple #[.int .i64 (if validB s then due s else 0), .bool (validB s)]) ∧ Ext w w' := by
  have K1 := Lib.hid fun W (h : LsRd W A s.lines) => valid_any s A c W h hn hw
  have K2 : Hid (validB s = true → ∀ W, LsRd W A s.lines → Calls Tryz.prog 19 #[.agg (stcells s A c)] W fun e w2 => e = .returned (.int .i64 (due s)) ∧ Ext W w2) := Lib.hid fun hb W h => by
    have hv := valid_tax hb
    exact due_any s A c W h hv.1 hv.2.1 hv.2.2
  generalize validB s = B at *
  generalize due s = D at *
  obtain ⟨order, status, prior, cur, tax, ls, paid, refunded, events, refused, stamp, who⟩ := s
  unfold stcells at *
  dsimp only at *
  generalize ls.length = n at *
  cases B with
  | false =>
    clear K2
    go_enter Tryz.func8, Tryz.ntmps8
    go_wp2_with (go_at_call 12; (with_reducible refine (K1.out _ (hr.ext (by repeat (first | with_reducible exact Below.refl _ _ | with_reducible assumption | with_reducible refine ExtD ?_ | with_reducible refine ExtDN ?_ | with_reducible refine ExtA ?_ | (with_reducible refine ExtR ?_ ?_; (first | omega | (dsimp only; omega) | (simp; done) | (simp; omega))) | (with_reducible refine ExtS ?_ ?_; (first | omega | (dsimp only; omega) | (simp; done) | (simp; omega))) | with_reducible refine Ext.tr ?_ (by with_reducible assumption))))).mono ?_); rintro e w1 ⟨rfl, hx1⟩)
    go_ret2
    exact ⟨rfl, (by repeat (first | with_reducible exact Below.refl _ _ | with_reducible assumption | with_reducible refine ExtD ?_ | with_reducible refine ExtDN ?_ | with_reducible refine ExtA ?_ | (with_reducible refine ExtR ?_ ?_; (first | omega | (dsimp only; omega) | (simp; done) | (simp; omega))) | (with_reducible refine ExtS ?_ ?_; (first | omega | (dsimp only; omega) | (simp; done) | (simp; omega))) | with_reducible refine Ext.tr ?_ (by with_reducible assumption)))⟩
  | true =>
    have KD := Lib.hid (K2.out rfl)
    clear K2
    have HS := Lib.hid (fun w' (h : Ext (w.alloc (.cells #[.int .i64 order, .int .i64 status, .int .i64 prior, .int .i64 cur, .int .i64 tax, .slice A n c, .int .i64 paid, .int .i64 refunded, .int .i64 events, .int .i64 refused, .int .i64 stamp, .string who] 25)) w') => (⟨h, (Ext.blk h (BlkN rfl)).cell 0, (Ext.blk h (BlkN rfl)).cell 1, (Ext.blk h (BlkN rfl)).cell 2, (Ext.blk h (BlkN rfl)).cell 3, (Ext.blk h (BlkN rfl)).cell 4, (Ext.blk h (BlkN rfl)).cell 5, (Ext.blk h (BlkN rfl)).cell 6, (Ext.blk h (BlkN rfl)).cell 7, (Ext.blk h (BlkN rfl)).cell 8, (Ext.blk h (BlkN rfl)).cell 9, (Ext.blk h (BlkN rfl)).cell 10, (Ext.blk h (BlkN rfl)).cell 11⟩ : (fun w' : World => Ext (w.alloc (.cells #[.int .i64 order, .int .i64 status, .int .i64 prior, .int .i64 cur, .int .i64 tax, .slice A n c, .int .i64 paid, .int .i64 refunded, .int .i64 events, .int .i64 refused, .int .i64 stamp, .string who] 25)) w' ∧ w'.cell? ⟨w.heap.size, 0, none⟩ = some (.int .i64 order) ∧ w'.cell? ⟨w.heap.size, 1, none⟩ = some (.int .i64 status) ∧ w'.cell? ⟨w.heap.size, 2, none⟩ = some (.int .i64 prior) ∧ w'.cell? ⟨w.heap.size, 3, none⟩ = some (.int .i64 cur) ∧ w'.cell? ⟨w.heap.size, 4, none⟩ = some (.int .i64 tax) ∧ w'.cell? ⟨w.heap.size, 5, none⟩ = some (.slice A n c) ∧ w'.cell? ⟨w.heap.size, 6, none⟩ = some (.int .i64 paid) ∧ w'.cell? ⟨w.heap.size, 7, none⟩ = some (.int .i64 refunded) ∧ w'.cell? ⟨w.heap.size, 8, none⟩ = some (.int .i64 events) ∧ w'.cell? ⟨w.heap.size, 9, none⟩ = some (.int .i64 refused) ∧ w'.cell? ⟨w.heap.size, 10, none⟩ = some (.int .i64 stamp) ∧ w'.cell? ⟨w.heap.size, 11, none⟩ = some (.string who)) w'))
    go_enter Tryz.func8, Tryz.ntmps8
    go_wp2_with (first
      | (go_at_call 12; (with_reducible refine (K1.out _ (hr.ext (by repeat (first | with_reducible exact Below.refl _ _ | with_reducible assumption | with_reducible refine ExtD ?_ | with_reducible refine ExtDN ?_ | with_reducible refine ExtA ?_ | (with_reducible refine ExtR ?_ ?_; (first | omega | (dsimp only; omega) | (simp; done) | (simp; omega))) | (with_reducible refine ExtS ?_ ?_; (first | omega | (dsimp only; omega) | (simp; done) | (simp; omega))) | with_reducible refine Ext.tr ?_ (by with_reducible assumption))))).mono ?_); rintro e w1 ⟨rfl, hx1⟩; have h3 := HS.out w1 (by repeat (first | with_reducible exact Below.refl _ _ | with_reducible assumption | with_reducible refine ExtD ?_ | with_reducible refine ExtDN ?_ | with_reducible refine ExtA ?_ | (with_reducible refine ExtR ?_ ?_; (first | omega | (dsimp only; omega) | (simp; done) | (simp; omega))) | (with_reducible refine ExtS ?_ ?_; (first | omega | (dsimp only; omega) | (simp; done) | (simp; omega))) | with_reducible refine Ext.tr ?_ (by with_reducible assumption))); go_split_ands)
      | (go_at_call 19; (with_reducible refine (KD.out _ (hr.ext (by repeat (first | with_reducible exact Below.refl _ _ | with_reducible assumption | with_reducible refine ExtD ?_ | with_reducible refine ExtDN ?_ | with_reducible refine ExtA ?_ | (with_reducible refine ExtR ?_ ?_; (first | omega | (dsimp only; omega) | (simp; done) | (simp; omega))) | (with_reducible refine ExtS ?_ ?_; (first | omega | (dsimp only; omega) | (simp; done) | (simp; omega))) | with_reducible refine Ext.tr ?_ (by with_reducible assumption))))).mono ?_); rintro e w2 ⟨rfl, hx2⟩))
    go_ret2
    exact ⟨rfl, (by repeat (first | with_reducible exact Below.refl _ _ | with_reducible assumption | with_reducible refine ExtD ?_ | with_reducible refine ExtDN ?_ | with_reducible refine ExtA ?_ | (with_reducible refine ExtR ?_ ?_; (first | omega | (dsimp only; omega) | (simp; done) | (simp; omega))) | (with_reducible refine ExtS ?_ ?_; (first | omega | (dsimp only; omega) | (simp; done) | (simp; omega))) | with_reducible refine Ext.tr ?_ (by with_reducible assumption)))⟩
def allowsB (s : St) (k : Int) : Bool := decide (k ≠ 1) && useB s k
set_option maxRecDepth 100000 in
set_option maxHeartbeats 4000000 in
theorem allows_any (s : St) (k : Int) (A : Option Addr) (c : Nat) (w : World) (hr : LsRd w A s.lines) (hn : s.lines.length ≤ 4611686018427387904) :
    Calls Tryz.prog 44 #[.agg (stcells s A c), .int .i64 k] w fun e w' => e = .returned (.bool (allowsB s k)) ∧ Ext w w' := by
  have K1 := Lib.hid fun W (h : LsRd W A s.lines) => shipped_any s A c W h hn
  have Hv : Hid (allowsB s k = (decide (k ≠ 1) && useB s k)) := Lib.hid rfl
  unfold useB at Hv
  generalize noneB s.lines = N at *
  generalize allB s.lines = AL at *
  generalize allowsB s k = R at *
  obtain ⟨order, status, prior, cur, tax, ls, paid, refunded, events, refused, stamp, who⟩ := s
  unfold stcells at *
  dsimp only at *
  generalize ls.length = n at *
  have HS := Lib.hid (fun w' (h : Ext (w.alloc (.cells #[.int .i64 order, .int .i64 status, .int .i64 prior, .int .i64 cur, .int .i64 tax, .slice A n c, .int .i64 paid, .int .i64 refunded, .int .i64 events, .int .i64 refused, .int .i64 stamp, .string who] 25)) w') => (⟨h, (Ext.blk h (BlkN rfl)).cell 0, (Ext.blk h (BlkN rfl)).cell 1, (Ext.blk h (BlkN rfl)).cell 2, (Ext.blk h (BlkN rfl)).cell 3, (Ext.blk h (BlkN rfl)).cell 4, (Ext.blk h (BlkN rfl)).cell 5, (Ext.blk h (BlkN rfl)).cell 6, (Ext.blk h (BlkN rfl)).cell 7, (Ext.blk h (BlkN rfl)).cell 8, (Ext.blk h (BlkN rfl)).cell 9, (Ext.blk h (BlkN rfl)).cell 10, (Ext.blk h (BlkN rfl)).cell 11⟩ : (fun w' : World => Ext (w.alloc (.cells #[.int .i64 order, .int .i64 status, .int .i64 prior, .int .i64 cur, .int .i64 tax, .slice A n c, .int .i64 paid, .int .i64 refunded, .int .i64 events, .int .i64 refused, .int .i64 stamp, .string who] 25)) w' ∧ w'.cell? ⟨w.heap.size, 0, none⟩ = some (.int .i64 order) ∧ w'.cell? ⟨w.heap.size, 1, none⟩ = some (.int .i64 status) ∧ w'.cell? ⟨w.heap.size, 2, none⟩ = some (.int .i64 prior) ∧ w'.cell? ⟨w.heap.size, 3, none⟩ = some (.int .i64 cur) ∧ w'.cell? ⟨w.heap.size, 4, none⟩ = some (.int .i64 tax) ∧ w'.cell? ⟨w.heap.size, 5, none⟩ = some (.slice A n c) ∧ w'.cell? ⟨w.heap.size, 6, none⟩ = some (.int .i64 paid) ∧ w'.cell? ⟨w.heap.size, 7, none⟩ = some (.int .i64 refunded) ∧ w'.cell? ⟨w.heap.size, 8, none⟩ = some (.int .i64 events) ∧ w'.cell? ⟨w.heap.size, 9, none⟩ = some (.int .i64 refused) ∧ w'.cell? ⟨w.heap.size, 10, none⟩ = some (.int .i64 stamp) ∧ w'.cell? ⟨w.heap.size, 11, none⟩ = some (.string who)) w'))
  go_enter Tryz.func44, Tryz.ntmps44
  go_wp2_with (go_at_call 24; (with_reducible refine (K1.out _ (hr.ext (by repeat (first | with_reducible exact Below.refl _ _ | with_reducible assumption | with_reducible refine ExtD ?_ | with_reducible refine ExtDN ?_ | with_reducible refine ExtA ?_ | (with_reducible refine ExtR ?_ ?_; (first | omega | (dsimp only; omega) | (simp; done) | (simp; omega))) | (with_reducible refine ExtS ?_ ?_; (first | omega | (dsimp only; omega) | (simp; done) | (simp; omega))) | with_reducible refine Ext.tr ?_ (by with_reducible assumption))))).mono ?_); rintro e w1 ⟨rfl, hx1⟩; have h3 := HS.out w1 (by repeat (first | with_reducible exact Below.refl _ _ | with_reducible assumption | with_reducible refine ExtD ?_ | with_reducible refine ExtDN ?_ | with_reducible refine ExtA ?_ | (with_reducible refine ExtR ?_ ?_; (first | omega | (dsimp only; omega) | (simp; done) | (simp; omega))) | (with_reducible refine ExtS ?_ ?_; (first | omega | (dsimp only; omega) | (simp; done) | (simp; omega))) | with_reducible refine Ext.tr ?_ (by with_reducible assumption))); go_split_ands)
  all_goals
    go_ret
    refine ⟨?_, (by repeat (first | with_reducible exact Below.refl _ _ | with_reducible assumption | with_reducible refine ExtD ?_ | with_reducible refine ExtDN ?_ | with_reducible refine ExtA ?_ | (with_reducible refine ExtR ?_ ?_; (first | omega | (dsimp only; omega) | (simp; done) | (simp; omega))) | (with_reducible refine ExtS ?_ ?_; (first | omega | (dsimp only; omega) | (simp; done) | (simp; omega))) | with_reducible refine Ext.tr ?_ (by with_reducible assumption)))⟩
    rw [Hv.out]
    clear K1 HS
    first | (simp only [beq_iff_eq, beq_eq_false_iff_ne, ne_eq] at *) | skip
    first | rfl | (simp [*, beq_dec]; done) | (simp [*, beq_dec]; omega) | (simp [*, beq_dec]; rw [Bool.eq_iff_iff]; simp; omega)
end Go.Proofs.YtjomgppbialeoaaGreat

namespace Go.Proofs.YtjomgppbialeoaaGreat
open Go.RowKit
set_option linter.unusedVariables false
set_option linter.unusedSimpArgs false
def amt (s : St) (e : Ev) : Nat :=
  if ((e.kind = 2 ∨ e.kind = 6 ∨ e.kind = 4) ∧ e.qty = 0) ∨ ((e.kind = 3 ∨ e.kind = 7) ∧ e.price = 0) then 6
  else match lineOf s.lines e.item with
    | none =>
      if e.kind = 6 ∨ e.kind = 4 then 7
      else if e.kind = 2 ∧ s.lines.length = 16 then 9
      else if (e.kind = 3 ∧ due s < s.paid + e.price) ∨ (e.kind = 7 ∧ s.paid < s.refunded + e.price) then 10 else 0
    | some l =>
      if e.kind = 2 ∧ l.price ≠ e.price then 8
      else if (e.kind = 2 ∧ 100000 < l.qty + e.qty) ∨ (e.kind = 6 ∧ l.qty < e.qty) ∨ (e.kind = 4 ∧ l.qty - l.shipped < e.qty) then 10
      else if (e.kind = 3 ∧ due s < s.paid + e.price) ∨ (e.kind = 7 ∧ s.paid < s.refunded + e.price) then 10 else 0
theorem judge_amt (s : St) (e : Ev) : judge s e = if validB s = false ∨ check5 e ≠ 0 ∨ s.events = 1099511627776 then 1
  else if e.order ≠ s.order then 2
  else if s.status = 0 ∧ e.kind ≠ 1 then 3
  else if s.status ≠ 0 ∧ e.kind = 1 then 4
  else if useB s e.kind = false then 5
  else amt s e := rfl
theorem pos_there {item b : Int} {ls : List Ln} (hb : risesB b ls = true) (ht : thereB item ls = true) : ∃ h : posOf item ls < ls.length, (ls[posOf item ls]'h).item = item := by
  induction ls generalizing b with
  | nil => simp [thereB] at ht
  | cons l r ih =>
    obtain ⟨_, _, h3⟩ := rises_cons.1 hb
    simp only [thereB, List.any_cons, Bool.or_eq_true, decide_eq_true_eq] at ht
    by_cases hlt : l.item < item
    · have hp : posOf item (l :: r) = posOf item r + 1 := (if_pos hlt : (if l.item < item then posOf item r + 1 else 0) = _)
      obtain ⟨h, he⟩ := ih h3 (by rcases ht with ht | ht; omega; exact ht)
      refine ⟨by rw [hp]; simp; exact h, ?_⟩
      simp only [hp, List.getElem_cons_succ]
      exact he
    · have hp : posOf item (l :: r) = 0 := (if_neg hlt : (if l.item < item then posOf item r + 1 else 0) = _)
      refine ⟨by rw [hp]; simp, ?_⟩
      simp only [hp, List.getElem_cons_zero]
      rcases ht with ht | ht
      · exact ht
      · obtain ⟨x, hx, he⟩ := List.any_eq_true.1 ht
        have := (rises_mem h3 x hx).2
        simp at he
        omega
theorem line_there {item b : Int} {ls : List Ln} (hb : risesB b ls = true) (ht : thereB item ls = true) : ∃ h : posOf item ls < ls.length, lineOf ls item = some (ls[posOf item ls]'h) := by
  obtain ⟨h, he⟩ := pos_there hb ht
  refine ⟨h, ?_⟩
  cases hl : lineOf ls item with
  | none => exact absurd he (lineOf_none hl _ (List.getElem_mem h))
  | some l => rw [(lineOf_some hl hb).2.2 _ (List.getElem_mem h) he]
theorem line_not {item : Int} {ls : List Ln} (ht : thereB item ls = false) : lineOf ls item = none := by
  unfold lineOf
  rw [List.find?_eq_none]
  intro x hx hc
  have := List.any_eq_false.1 ht x hx
  exact this hc
def lnAt (w : World) (A : Option Addr) (P : Nat) (l : Ln) : Prop := ∃ b o, A = some ⟨b, o, none⟩ ∧ w.rangeAt b (o + P * 4) (lncells l).toList
set_option maxRecDepth 100000 in
set_option maxHeartbeats 4000000 in
theorem amounts_not (s : St) (e : Ev) (A : Option Addr) (c : Nat) (w : World) (hr : LsRd w A s.lines) (hv : VOk s) (he : EOk e) (ht : thereB e.item s.lines = false) :
    Calls Tryz.prog 45 #[.agg (stcells s A c), .agg (evcells e)] w fun e' w' => e' = .returned (.int .i64 (amt s e)) ∧ Ext w w' := by
  have K1 := Lib.hid fun W (h : LsRd W A s.lines) => find_any s e.item A c W h hv.len hv.rises he.item
  have KD := Lib.hid fun W (h : LsRd W A s.lines) => due_any s A c W h (fun l hl => (rises_mem hv.rises l hl).1) hv.len hv.tax
  have Hv : Hid (amt s e = if ((e.kind = 2 ∨ e.kind = 6 ∨ e.kind = 4) ∧ e.qty = 0) ∨ ((e.kind = 3 ∨ e.kind = 7) ∧ e.price = 0) then 6
    else if e.kind = 6 ∨ e.kind = 4 then 7
      else if e.kind = 2 ∧ s.lines.length = 16 then 9
      else if (e.kind = 3 ∧ due s < s.paid + e.price) ∨ (e.kind = 7 ∧ s.paid < s.refunded + e.price) then 10 else 0) := Lib.hid (by unfold amt; rw [line_not ht])
  have hb := net_bound fun l hl => (rises_mem hv.rises l hl).1
  have hx := tax_bound hb.1 hv.tax.1 hv.tax.2
  have hdu : due s = net s.lines + taxOf (net s.lines) s.tax := rfl
  have hp := hv.paid
  have hrf := hv.refunded
  have hlen := hv.len
  have hpr := he.price
  have hk := he.kind
  have hD : 0 ≤ s.paid ∧ s.paid ≤ 320000000000000 := by omega
  clear hb hx hdu hp
  rw [ht] at K1
  generalize posOf e.item s.lines = P at *
  generalize due s = D at *
  generalize amt s e = R at *
  clear hv he ht
  obtain ⟨order, status, prior, cur, tax, ls, paid, refunded, events, refused, stamp, who⟩ := s
  obtain ⟨ek, eo, ei, eq, ep, ec, et, ew, es, en⟩ := e
  unfold stcells evcells at *
  dsimp only at *
  generalize ls.length = n at *
  have hw1 : IntKind.i64.wrap (paid + ep) = paid + ep := by rw [IntKind.wrap_i64]; omega
  have HS := Lib.hid (fun w' (h : Ext ((w.alloc (.cells #[.int .i64 order, .int .i64 status, .int .i64 prior, .int .i64 cur, .int .i64 tax, .slice A n c, .int .i64 paid, .int .i64 refunded, .int .i64 events, .int .i64 refused, .int .i64 stamp, .string who] 25)).alloc (.cells #[.int .i64 ek, .int .i64 eo, .int .i64 ei, .int .i64 eq, .int .i64 ep, .int .i64 ec, .int .i64 et, .string ew, .int .i64 es, .string en] 38)) w') => (⟨h, (Ext.blk h (BlkA (BlkN rfl))).cell 0, (Ext.blk h (BlkA (BlkN rfl))).cell 1, (Ext.blk h (BlkA (BlkN rfl))).cell 2, (Ext.blk h (BlkA (BlkN rfl))).cell 3, (Ext.blk h (BlkA (BlkN rfl))).cell 4, (Ext.blk h (BlkA (BlkN rfl))).cell 5, (Ext.blk h (BlkA (BlkN rfl))).cell 6, (Ext.blk h (BlkA (BlkN rfl))).cell 7, (Ext.blk h (BlkA (BlkN rfl))).cell 8, (Ext.blk h (BlkA (BlkN rfl))).cell 9, (Ext.blk h (BlkA (BlkN rfl))).cell 10, (Ext.blk h (BlkA (BlkN rfl))).cell 11, (Ext.blk h (BlkN (by simp))).cell 0, (Ext.blk h (BlkN (by simp))).cell 1, (Ext.blk h (BlkN (by simp))).cell 2, (Ext.blk h (BlkN (by simp))).cell 3, (Ext.blk h (BlkN (by simp))).cell 4, (Ext.blk h (BlkN (by simp))).cell 5, (Ext.blk h (BlkN (by simp))).cell 6, (Ext.blk h (BlkN (by simp))).cell 7, (Ext.blk h (BlkN (by simp))).cell 8, (Ext.blk h (BlkN (by simp))).cell 9⟩ : (fun w' : World => Ext ((w.alloc (.cells #[.int .i64 order, .int .i64 status, .int .i64 prior, .int .i64 cur, .int .i64 tax, .slice A n c, .int .i64 paid, .int .i64 refunded, .int .i64 events, .int .i64 refused, .int .i64 stamp, .string who] 25)).alloc (.cells #[.int .i64 ek, .int .i64 eo, .int .i64 ei, .int .i64 eq, .int .i64 ep, .int .i64 ec, .int .i64 et, .string ew, .int .i64 es, .string en] 38)) w' ∧ w'.cell? ⟨w.heap.size, 0, none⟩ = some (.int .i64 order) ∧ w'.cell? ⟨w.heap.size, 1, none⟩ = some (.int .i64 status) ∧ w'.cell? ⟨w.heap.size, 2, none⟩ = some (.int .i64 prior) ∧ w'.cell? ⟨w.heap.size, 3, none⟩ = some (.int .i64 cur) ∧ w'.cell? ⟨w.heap.size, 4, none⟩ = some (.int .i64 tax) ∧ w'.cell? ⟨w.heap.size, 5, none⟩ = some (.slice A n c) ∧ w'.cell? ⟨w.heap.size, 6, none⟩ = some (.int .i64 paid) ∧ w'.cell? ⟨w.heap.size, 7, none⟩ = some (.int .i64 refunded) ∧ w'.cell? ⟨w.heap.size, 8, none⟩ = some (.int .i64 events) ∧ w'.cell? ⟨w.heap.size, 9, none⟩ = some (.int .i64 refused) ∧ w'.cell? ⟨w.heap.size, 10, none⟩ = some (.int .i64 stamp) ∧ w'.cell? ⟨w.heap.size, 11, none⟩ = some (.string who) ∧ w'.cell? ⟨w.heap.size + 1, 0, none⟩ = some (.int .i64 ek) ∧ w'.cell? ⟨w.heap.size + 1, 1, none⟩ = some (.int .i64 eo) ∧ w'.cell? ⟨w.heap.size + 1, 2, none⟩ = some (.int .i64 ei) ∧ w'.cell? ⟨w.heap.size + 1, 3, none⟩ = some (.int .i64 eq) ∧ w'.cell? ⟨w.heap.size + 1, 4, none⟩ = some (.int .i64 ep) ∧ w'.cell? ⟨w.heap.size + 1, 5, none⟩ = some (.int .i64 ec) ∧ w'.cell? ⟨w.heap.size + 1, 6, none⟩ = some (.int .i64 et) ∧ w'.cell? ⟨w.heap.size + 1, 7, none⟩ = some (.string ew) ∧ w'.cell? ⟨w.heap.size + 1, 8, none⟩ = some (.int .i64 es) ∧ w'.cell? ⟨w.heap.size + 1, 9, none⟩ = some (.string en)) w'))
  go_enter Tryz.func45, Tryz.ntmps45
  go_wp2_with (go_at_call 71; (with_reducible refine (K1.out _ (hr.ext (by repeat (first | with_reducible exact Below.refl _ _ | with_reducible assumption | with_reducible refine ExtD ?_ | with_reducible refine ExtDN ?_ | with_reducible refine ExtA ?_ | (with_reducible refine ExtR ?_ ?_; (first | omega | (dsimp only; omega) | (simp; done) | (simp; omega))) | (with_reducible refine ExtS ?_ ?_; (first | omega | (dsimp only; omega) | (simp; done) | (simp; omega))) | with_reducible refine Ext.tr ?_ (by with_reducible assumption))))).mono ?_); rintro e w1 ⟨rfl, hx1⟩; have h3 := HS.out w1 (by repeat (first | with_reducible exact Below.refl _ _ | with_reducible assumption | with_reducible refine ExtD ?_ | with_reducible refine ExtDN ?_ | with_reducible refine ExtA ?_ | (with_reducible refine ExtR ?_ ?_; (first | omega | (dsimp only; omega) | (simp; done) | (simp; omega))) | (with_reducible refine ExtS ?_ ?_; (first | omega | (dsimp only; omega) | (simp; done) | (simp; omega))) | with_reducible refine Ext.tr ?_ (by with_reducible assumption))); go_split_ands)
  all_goals first
    | (go_ret; refine ⟨?_, (by repeat (first | with_reducible exact Below.refl _ _ | with_reducible assumption | with_reducible refine ExtD ?_ | with_reducible refine ExtDN ?_ | with_reducible refine ExtA ?_ | (with_reducible refine ExtR ?_ ?_; (first | omega | (dsimp only; omega) | (simp; done) | (simp; omega))) | (with_reducible refine ExtS ?_ ?_; (first | omega | (dsimp only; omega) | (simp; done) | (simp; omega))) | with_reducible refine Ext.tr ?_ (by with_reducible assumption)))⟩; rw [Hv.out]; clear K1 KD HS; (first | (simp only [beq_iff_eq, beq_eq_false_iff_ne, ne_eq, bne_iff_ne, bne_eq_false_iff_eq] at *) | skip); first | rfl | (simp [*, beq_dec]; done) | (simp [*, beq_dec]; omega) | (simp [*, beq_dec]; split <;> omega) | (simp [*, beq_dec]; split <;> split <;> omega))
    | (go_quiet (fail)
       go_wp2_with fail
       all_goals (go_ret; refine ⟨?_, (by repeat (first | with_reducible exact Below.refl _ _ | with_reducible assumption | with_reducible refine ExtD ?_ | with_reducible refine ExtDN ?_ | with_reducible refine ExtA ?_ | (with_reducible refine ExtR ?_ ?_; (first | omega | (dsimp only; omega) | (simp; done) | (simp; omega))) | (with_reducible refine ExtS ?_ ?_; (first | omega | (dsimp only; omega) | (simp; done) | (simp; omega))) | with_reducible refine Ext.tr ?_ (by with_reducible assumption)))⟩; rw [Hv.out]; clear K1 KD HS; (first | (simp only [beq_iff_eq, beq_eq_false_iff_ne, ne_eq, bne_iff_ne, bne_eq_false_iff_eq] at *) | skip); first | rfl | (simp [*, beq_dec]; done) | (simp [*, beq_dec]; omega) | (simp [*, beq_dec]; split <;> omega) | (simp [*, beq_dec]; split <;> split <;> omega)))
    | ((go_region_held3 (fun w' : World => Ext ((w.alloc (.cells #[.int .i64 order, .int .i64 status, .int .i64 prior, .int .i64 cur, .int .i64 tax, .slice A n c, .int .i64 paid, .int .i64 refunded, .int .i64 events, .int .i64 refused, .int .i64 stamp, .string who] 25)).alloc (.cells #[.int .i64 ek, .int .i64 eo, .int .i64 ei, .int .i64 eq, .int .i64 ep, .int .i64 ec, .int .i64 et, .string ew, .int .i64 es, .string en] 38)) w' ∧ w'.cell? ⟨w.heap.size, 0, none⟩ = some (.int .i64 order) ∧ w'.cell? ⟨w.heap.size, 1, none⟩ = some (.int .i64 status) ∧ w'.cell? ⟨w.heap.size, 2, none⟩ = some (.int .i64 prior) ∧ w'.cell? ⟨w.heap.size, 3, none⟩ = some (.int .i64 cur) ∧ w'.cell? ⟨w.heap.size, 4, none⟩ = some (.int .i64 tax) ∧ w'.cell? ⟨w.heap.size, 5, none⟩ = some (.slice A n c) ∧ w'.cell? ⟨w.heap.size, 6, none⟩ = some (.int .i64 paid) ∧ w'.cell? ⟨w.heap.size, 7, none⟩ = some (.int .i64 refunded) ∧ w'.cell? ⟨w.heap.size, 8, none⟩ = some (.int .i64 events) ∧ w'.cell? ⟨w.heap.size, 9, none⟩ = some (.int .i64 refused) ∧ w'.cell? ⟨w.heap.size, 10, none⟩ = some (.int .i64 stamp) ∧ w'.cell? ⟨w.heap.size, 11, none⟩ = some (.string who) ∧ w'.cell? ⟨w.heap.size + 1, 0, none⟩ = some (.int .i64 ek) ∧ w'.cell? ⟨w.heap.size + 1, 1, none⟩ = some (.int .i64 eo) ∧ w'.cell? ⟨w.heap.size + 1, 2, none⟩ = some (.int .i64 ei) ∧ w'.cell? ⟨w.heap.size + 1, 3, none⟩ = some (.int .i64 eq) ∧ w'.cell? ⟨w.heap.size + 1, 4, none⟩ = some (.int .i64 ep) ∧ w'.cell? ⟨w.heap.size + 1, 5, none⟩ = some (.int .i64 ec) ∧ w'.cell? ⟨w.heap.size + 1, 6, none⟩ = some (.int .i64 et) ∧ w'.cell? ⟨w.heap.size + 1, 7, none⟩ = some (.string ew) ∧ w'.cell? ⟨w.heap.size + 1, 8, none⟩ = some (.int .i64 es) ∧ w'.cell? ⟨w.heap.size + 1, 9, none⟩ = some (.string en))
  (exact HS.out _ (by repeat (first | with_reducible exact Below.refl _ _ | with_reducible assumption | with_reducible refine ExtD ?_ | with_reducible refine ExtDN ?_ | with_reducible refine ExtA ?_ | (with_reducible refine ExtR ?_ ?_; (first | omega | (dsimp only; omega) | (simp; done) | (simp; omega))) | (with_reducible refine ExtS ?_ ?_; (first | omega | (dsimp only; omega) | (simp; done) | (simp; omega))) | with_reducible refine Ext.tr ?_ (by with_reducible assumption))))
  (first
    | (go_at_call 19; (with_reducible refine (KD.out _ (hr.ext (by repeat (first | with_reducible exact Below.refl _ _ | with_reducible assumption | with_reducible refine ExtD ?_ | with_reducible refine ExtDN ?_ | with_reducible refine ExtA ?_ | (with_reducible refine ExtR ?_ ?_; (first | omega | (dsimp only; omega) | (simp; done) | (simp; omega))) | (with_reducible refine ExtS ?_ ?_; (first | omega | (dsimp only; omega) | (simp; done) | (simp; omega))) | with_reducible refine Ext.tr ?_ (by with_reducible assumption))))).mono ?_); rintro e w4 ⟨rfl, hx4⟩)))
       go_split_ands
       go_wp2_with fail
       all_goals (go_ret; refine ⟨?_, (by repeat (first | with_reducible exact Below.refl _ _ | with_reducible assumption | with_reducible refine ExtD ?_ | with_reducible refine ExtDN ?_ | with_reducible refine ExtA ?_ | (with_reducible refine ExtR ?_ ?_; (first | omega | (dsimp only; omega) | (simp; done) | (simp; omega))) | (with_reducible refine ExtS ?_ ?_; (first | omega | (dsimp only; omega) | (simp; done) | (simp; omega))) | with_reducible refine Ext.tr ?_ (by with_reducible assumption)))⟩; rw [Hv.out]; clear K1 KD HS; (first | (simp only [beq_iff_eq, beq_eq_false_iff_ne, ne_eq, bne_iff_ne, bne_eq_false_iff_eq] at *) | skip); first | rfl | (simp [*, beq_dec]; done) | (simp [*, beq_dec]; omega) | (simp [*, beq_dec]; split <;> omega) | (simp [*, beq_dec]; split <;> split <;> omega)))
set_option maxRecDepth 100000 in
set_option maxHeartbeats 4000000 in
theorem amounts_yes (s : St) (e : Ev) (A : Option Addr) (c : Nat) (w : World) (hr : LsRd w A s.lines) (hv : VOk s) (he : EOk e) (ht : thereB e.item s.lines = true) :
    Calls Tryz.prog 45 #[.agg (stcells s A c), .agg (evcells e)] w fun e' w' => e' = .returned (.int .i64 (amt s e)) ∧ Ext w w' := by
  have K1 := Lib.hid fun W (h : LsRd W A s.lines) => find_any s e.item A c W h hv.len hv.rises he.item
  have KD := Lib.hid fun W (h : LsRd W A s.lines) => due_any s A c W h (fun l hl => (rises_mem hv.rises l hl).1) hv.len hv.tax
  obtain ⟨hP, hline⟩ := line_there hv.rises ht
  obtain ⟨b, o, rfl, hc⟩ := ls_at hr hP
  have Hl := (lnB_iff.1 (rises_mem hv.rises _ (List.getElem_mem hP)).1).2
  obtain ⟨l, hl⟩ : ∃ l, l = s.lines[posOf e.item s.lines]'hP := ⟨_, rfl⟩
  rw [← hl] at Hl hline hc
  clear hl
  have Hv : Hid (amt s e = if ((e.kind = 2 ∨ e.kind = 6 ∨ e.kind = 4) ∧ e.qty = 0) ∨ ((e.kind = 3 ∨ e.kind = 7) ∧ e.price = 0) then 6
    else if e.kind = 2 ∧ l.price ≠ e.price then 8
      else if (e.kind = 2 ∧ 100000 < l.qty + e.qty) ∨ (e.kind = 6 ∧ l.qty < e.qty) ∨ (e.kind = 4 ∧ l.qty - l.shipped < e.qty) then 10
      else if (e.kind = 3 ∧ due s < s.paid + e.price) ∨ (e.kind = 7 ∧ s.paid < s.refunded + e.price) then 10 else 0) := Lib.hid (by unfold amt; rw [hline])
  have hb := net_bound fun l hl => (rises_mem hv.rises l hl).1
  have hx := tax_bound hb.1 hv.tax.1 hv.tax.2
  have hdu : due s = net s.lines + taxOf (net s.lines) s.tax := rfl
  have hp := hv.paid
  have hrf := hv.refunded
  have hlen := hv.len
  have hpr := he.price
  have hqt := he.qty
  have hk := he.kind
  have hD : 0 ≤ s.paid ∧ s.paid ≤ 320000000000000 := by omega
  clear hb hx hdu hp
  rw [ht] at K1
  generalize posOf e.item s.lines = P at *
  generalize due s = D at *
  generalize amt s e = R at *
  clear hv he ht hline
  obtain ⟨order, status, prior, cur, tax, ls, paid, refunded, events, refused, stamp, who⟩ := s
  obtain ⟨ek, eo, ei, eq, ep, ec, et, ew, es, en⟩ := e
  obtain ⟨li, lp, lq, lsh⟩ := l
  unfold stcells evcells at *
  unfold lncells at hc
  dsimp only at *
  have Hc := Lib.hid hc
  clear hc
  obtain ⟨hl1, hl2, hl3⟩ := Hl
  generalize ls.length = n at *
  have hw1 : IntKind.i64.wrap (paid + ep) = paid + ep := by rw [IntKind.wrap_i64]; omega
  have hw2 : IntKind.i64.wrap (lq + eq) = lq + eq := by rw [IntKind.wrap_i64]; omega
  have hw3 : IntKind.i64.wrap (lq - lsh) = lq - lsh := by rw [IntKind.wrap_i64]; omega
  have hwP : IntKind.i64.wrap (P : Int) = (P : Int) := by rw [IntKind.wrap_i64]; omega
  have hPn : (P : Int) < (n : Int) := by omega
  have HS := Lib.hid (fun w' (h : Ext ((w.alloc (.cells #[.int .i64 order, .int .i64 status, .int .i64 prior, .int .i64 cur, .int .i64 tax, .slice (some ⟨b, o, none⟩) n c, .int .i64 paid, .int .i64 refunded, .int .i64 events, .int .i64 refused, .int .i64 stamp, .string who] 25)).alloc (.cells #[.int .i64 ek, .int .i64 eo, .int .i64 ei, .int .i64 eq, .int .i64 ep, .int .i64 ec, .int .i64 et, .string ew, .int .i64 es, .string en] 38)) w') => (⟨h, (Ext.blk h (BlkA (BlkN rfl))).cell 0, (Ext.blk h (BlkA (BlkN rfl))).cell 1, (Ext.blk h (BlkA (BlkN rfl))).cell 2, (Ext.blk h (BlkA (BlkN rfl))).cell 3, (Ext.blk h (BlkA (BlkN rfl))).cell 4, (Ext.blk h (BlkA (BlkN rfl))).cell 5, (Ext.blk h (BlkA (BlkN rfl))).cell 6, (Ext.blk h (BlkA (BlkN rfl))).cell 7, (Ext.blk h (BlkA (BlkN rfl))).cell 8, (Ext.blk h (BlkA (BlkN rfl))).cell 9, (Ext.blk h (BlkA (BlkN rfl))).cell 10, (Ext.blk h (BlkA (BlkN rfl))).cell 11, (Ext.blk h (BlkN (by simp))).cell 0, (Ext.blk h (BlkN (by simp))).cell 1, (Ext.blk h (BlkN (by simp))).cell 2, (Ext.blk h (BlkN (by simp))).cell 3, (Ext.blk h (BlkN (by simp))).cell 4, (Ext.blk h (BlkN (by simp))).cell 5, (Ext.blk h (BlkN (by simp))).cell 6, (Ext.blk h (BlkN (by simp))).cell 7, (Ext.blk h (BlkN (by simp))).cell 8, (Ext.blk h (BlkN (by simp))).cell 9⟩ : (fun w' : World => Ext ((w.alloc (.cells #[.int .i64 order, .int .i64 status, .int .i64 prior, .int .i64 cur, .int .i64 tax, .slice (some ⟨b, o, none⟩) n c, .int .i64 paid, .int .i64 refunded, .int .i64 events, .int .i64 refused, .int .i64 stamp, .string who] 25)).alloc (.cells #[.int .i64 ek, .int .i64 eo, .int .i64 ei, .int .i64 eq, .int .i64 ep, .int .i64 ec, .int .i64 et, .string ew, .int .i64 es, .string en] 38)) w' ∧ w'.cell? ⟨w.heap.size, 0, none⟩ = some (.int .i64 order) ∧ w'.cell? ⟨w.heap.size, 1, none⟩ = some (.int .i64 status) ∧ w'.cell? ⟨w.heap.size, 2, none⟩ = some (.int .i64 prior) ∧ w'.cell? ⟨w.heap.size, 3, none⟩ = some (.int .i64 cur) ∧ w'.cell? ⟨w.heap.size, 4, none⟩ = some (.int .i64 tax) ∧ w'.cell? ⟨w.heap.size, 5, none⟩ = some (.slice (some ⟨b, o, none⟩) n c) ∧ w'.cell? ⟨w.heap.size, 6, none⟩ = some (.int .i64 paid) ∧ w'.cell? ⟨w.heap.size, 7, none⟩ = some (.int .i64 refunded) ∧ w'.cell? ⟨w.heap.size, 8, none⟩ = some (.int .i64 events) ∧ w'.cell? ⟨w.heap.size, 9, none⟩ = some (.int .i64 refused) ∧ w'.cell? ⟨w.heap.size, 10, none⟩ = some (.int .i64 stamp) ∧ w'.cell? ⟨w.heap.size, 11, none⟩ = some (.string who) ∧ w'.cell? ⟨w.heap.size + 1, 0, none⟩ = some (.int .i64 ek) ∧ w'.cell? ⟨w.heap.size + 1, 1, none⟩ = some (.int .i64 eo) ∧ w'.cell? ⟨w.heap.size + 1, 2, none⟩ = some (.int .i64 ei) ∧ w'.cell? ⟨w.heap.size + 1, 3, none⟩ = some (.int .i64 eq) ∧ w'.cell? ⟨w.heap.size + 1, 4, none⟩ = some (.int .i64 ep) ∧ w'.cell? ⟨w.heap.size + 1, 5, none⟩ = some (.int .i64 ec) ∧ w'.cell? ⟨w.heap.size + 1, 6, none⟩ = some (.int .i64 et) ∧ w'.cell? ⟨w.heap.size + 1, 7, none⟩ = some (.string ew) ∧ w'.cell? ⟨w.heap.size + 1, 8, none⟩ = some (.int .i64 es) ∧ w'.cell? ⟨w.heap.size + 1, 9, none⟩ = some (.string en)) w'))
  go_enter Tryz.func45, Tryz.ntmps45
  go_wp2_with (go_at_call 71; (with_reducible refine (K1.out _ (hr.ext (by repeat (first | with_reducible exact Below.refl _ _ | with_reducible assumption | with_reducible refine ExtD ?_ | with_reducible refine ExtDN ?_ | with_reducible refine ExtA ?_ | (with_reducible refine ExtR ?_ ?_; (first | omega | (dsimp only; omega) | (simp; done) | (simp; omega))) | (with_reducible refine ExtS ?_ ?_; (first | omega | (dsimp only; omega) | (simp; done) | (simp; omega))) | with_reducible refine Ext.tr ?_ (by with_reducible assumption))))).mono ?_); rintro e w1 ⟨rfl, hx1⟩; have h3 := HS.out w1 (by repeat (first | with_reducible exact Below.refl _ _ | with_reducible assumption | with_reducible refine ExtD ?_ | with_reducible refine ExtDN ?_ | with_reducible refine ExtA ?_ | (with_reducible refine ExtR ?_ ?_; (first | omega | (dsimp only; omega) | (simp; done) | (simp; omega))) | (with_reducible refine ExtS ?_ ?_; (first | omega | (dsimp only; omega) | (simp; done) | (simp; omega))) | with_reducible refine Ext.tr ?_ (by with_reducible assumption))); go_split_ands; have y1 : Ext w w1 := (by repeat (first | with_reducible exact Below.refl _ _ | with_reducible assumption | with_reducible refine ExtD ?_ | with_reducible refine ExtDN ?_ | with_reducible refine ExtA ?_ | (with_reducible refine ExtR ?_ ?_; (first | omega | (dsimp only; omega) | (simp; done) | (simp; omega))) | (with_reducible refine ExtS ?_ ?_; (first | omega | (dsimp only; omega) | (simp; done) | (simp; omega))) | with_reducible refine Ext.tr ?_ (by with_reducible assumption))); have r1 := range_ext Hc.out y1; have d1 : w1.cell? ⟨b, o + P * 4 + 1, none⟩ = some (.int .i64 lp) := r1 1 _ rfl; have d2 : w1.cell? ⟨b, o + P * 4 + 2, none⟩ = some (.int .i64 lq) := r1 2 _ rfl; have d3 : w1.cell? ⟨b, o + P * 4 + 3, none⟩ = some (.int .i64 lsh) := r1 3 _ rfl; clear r1)
  all_goals try (go_ret; refine ⟨?_, (by repeat (first | with_reducible exact Below.refl _ _ | with_reducible assumption | with_reducible refine ExtD ?_ | with_reducible refine ExtDN ?_ | with_reducible refine ExtA ?_ | (with_reducible refine ExtR ?_ ?_; (first | omega | (dsimp only; omega) | (simp; done) | (simp; omega))) | (with_reducible refine ExtS ?_ ?_; (first | omega | (dsimp only; omega) | (simp; done) | (simp; omega))) | with_reducible refine Ext.tr ?_ (by with_reducible assumption)))⟩; rw [Hv.out]; clear K1 KD HS; (first | (simp only [beq_iff_eq, beq_eq_false_iff_ne, ne_eq, bne_iff_ne, bne_eq_false_iff_eq] at *) | skip); first | rfl | (simp [*, beq_dec]; done) | (simp [*, beq_dec]; omega) | (simp [*, beq_dec]; split <;> omega) | (simp [*, beq_dec]; split <;> split <;> omega))
  all_goals first
    | (go_quiet (fail)
       go_wp2_with fail
       all_goals try (go_ret; refine ⟨?_, (by repeat (first | with_reducible exact Below.refl _ _ | with_reducible assumption | with_reducible refine ExtD ?_ | with_reducible refine ExtDN ?_ | with_reducible refine ExtA ?_ | (with_reducible refine ExtR ?_ ?_; (first | omega | (dsimp only; omega) | (simp; done) | (simp; omega))) | (with_reducible refine ExtS ?_ ?_; (first | omega | (dsimp only; omega) | (simp; done) | (simp; omega))) | with_reducible refine Ext.tr ?_ (by with_reducible assumption)))⟩; rw [Hv.out]; clear K1 KD HS; (first | (simp only [beq_iff_eq, beq_eq_false_iff_ne, ne_eq, bne_iff_ne, bne_eq_false_iff_eq] at *) | skip); first | rfl | (simp [*, beq_dec]; done) | (simp [*, beq_dec]; omega) | (simp [*, beq_dec]; split <;> omega) | (simp [*, beq_dec]; split <;> split <;> omega)))
    | ((go_region_held3 (fun w' : World => Ext ((w.alloc (.cells #[.int .i64 order, .int .i64 status, .int .i64 prior, .int .i64 cur, .int .i64 tax, .slice (some ⟨b, o, none⟩) n c, .int .i64 paid, .int .i64 refunded, .int .i64 events, .int .i64 refused, .int .i64 stamp, .string who] 25)).alloc (.cells #[.int .i64 ek, .int .i64 eo, .int .i64 ei, .int .i64 eq, .int .i64 ep, .int .i64 ec, .int .i64 et, .string ew, .int .i64 es, .string en] 38)) w' ∧ w'.cell? ⟨w.heap.size, 0, none⟩ = some (.int .i64 order) ∧ w'.cell? ⟨w.heap.size, 1, none⟩ = some (.int .i64 status) ∧ w'.cell? ⟨w.heap.size, 2, none⟩ = some (.int .i64 prior) ∧ w'.cell? ⟨w.heap.size, 3, none⟩ = some (.int .i64 cur) ∧ w'.cell? ⟨w.heap.size, 4, none⟩ = some (.int .i64 tax) ∧ w'.cell? ⟨w.heap.size, 5, none⟩ = some (.slice (some ⟨b, o, none⟩) n c) ∧ w'.cell? ⟨w.heap.size, 6, none⟩ = some (.int .i64 paid) ∧ w'.cell? ⟨w.heap.size, 7, none⟩ = some (.int .i64 refunded) ∧ w'.cell? ⟨w.heap.size, 8, none⟩ = some (.int .i64 events) ∧ w'.cell? ⟨w.heap.size, 9, none⟩ = some (.int .i64 refused) ∧ w'.cell? ⟨w.heap.size, 10, none⟩ = some (.int .i64 stamp) ∧ w'.cell? ⟨w.heap.size, 11, none⟩ = some (.string who) ∧ w'.cell? ⟨w.heap.size + 1, 0, none⟩ = some (.int .i64 ek) ∧ w'.cell? ⟨w.heap.size + 1, 1, none⟩ = some (.int .i64 eo) ∧ w'.cell? ⟨w.heap.size + 1, 2, none⟩ = some (.int .i64 ei) ∧ w'.cell? ⟨w.heap.size + 1, 3, none⟩ = some (.int .i64 eq) ∧ w'.cell? ⟨w.heap.size + 1, 4, none⟩ = some (.int .i64 ep) ∧ w'.cell? ⟨w.heap.size + 1, 5, none⟩ = some (.int .i64 ec) ∧ w'.cell? ⟨w.heap.size + 1, 6, none⟩ = some (.int .i64 et) ∧ w'.cell? ⟨w.heap.size + 1, 7, none⟩ = some (.string ew) ∧ w'.cell? ⟨w.heap.size + 1, 8, none⟩ = some (.int .i64 es) ∧ w'.cell? ⟨w.heap.size + 1, 9, none⟩ = some (.string en))
  (exact HS.out _ (by repeat (first | with_reducible exact Below.refl _ _ | with_reducible assumption | with_reducible refine ExtD ?_ | with_reducible refine ExtDN ?_ | with_reducible refine ExtA ?_ | (with_reducible refine ExtR ?_ ?_; (first | omega | (dsimp only; omega) | (simp; done) | (simp; omega))) | (with_reducible refine ExtS ?_ ?_; (first | omega | (dsimp only; omega) | (simp; done) | (simp; omega))) | with_reducible refine Ext.tr ?_ (by with_reducible assumption))))
  (first
    | (go_at_call 19; (with_reducible refine (KD.out _ (hr.ext (by repeat (first | with_reducible exact Below.refl _ _ | with_reducible assumption | with_reducible refine ExtD ?_ | with_reducible refine ExtDN ?_ | with_reducible refine ExtA ?_ | (with_reducible refine ExtR ?_ ?_; (first | omega | (dsimp only; omega) | (simp; done) | (simp; omega))) | (with_reducible refine ExtS ?_ ?_; (first | omega | (dsimp only; omega) | (simp; done) | (simp; omega))) | with_reducible refine Ext.tr ?_ (by with_reducible assumption))))).mono ?_); rintro e w4 ⟨rfl, hx4⟩)))
       go_split_ands
       go_wp2_with fail
       all_goals (go_ret; refine ⟨?_, (by repeat (first | with_reducible exact Below.refl _ _ | with_reducible assumption | with_reducible refine ExtD ?_ | with_reducible refine ExtDN ?_ | with_reducible refine ExtA ?_ | (with_reducible refine ExtR ?_ ?_; (first | omega | (dsimp only; omega) | (simp; done) | (simp; omega))) | (with_reducible refine ExtS ?_ ?_; (first | omega | (dsimp only; omega) | (simp; done) | (simp; omega))) | with_reducible refine Ext.tr ?_ (by with_reducible assumption)))⟩; rw [Hv.out]; clear K1 KD HS; (first | (simp only [beq_iff_eq, beq_eq_false_iff_ne, ne_eq, bne_iff_ne, bne_eq_false_iff_eq] at *) | skip); first | rfl | (simp [*, beq_dec]; done) | (simp [*, beq_dec]; omega) | (simp [*, beq_dec]; split <;> omega) | (simp [*, beq_dec]; split <;> split <;> omega)))
  all_goals
    go_quiet (fail)
    go_wp2_with fail
    all_goals (go_ret; refine ⟨?_, (by repeat (first | with_reducible exact Below.refl _ _ | with_reducible assumption | with_reducible refine ExtD ?_ | with_reducible refine ExtDN ?_ | with_reducible refine ExtA ?_ | (with_reducible refine ExtR ?_ ?_; (first | omega | (dsimp only; omega) | (simp; done) | (simp; omega))) | (with_reducible refine ExtS ?_ ?_; (first | omega | (dsimp only; omega) | (simp; done) | (simp; omega))) | with_reducible refine Ext.tr ?_ (by with_reducible assumption)))⟩; rw [Hv.out]; clear K1 KD HS; (first | (simp only [beq_iff_eq, beq_eq_false_iff_ne, ne_eq, bne_iff_ne, bne_eq_false_iff_eq] at *) | skip); first | rfl | (simp [*, beq_dec]; done) | (simp [*, beq_dec]; omega) | (simp [*, beq_dec]; split <;> omega) | (simp [*, beq_dec]; split <;> split <;> omega))
theorem amounts_any (s : St) (e : Ev) (A : Option Addr) (c : Nat) (w : World) (hr : LsRd w A s.lines) (hv : VOk s) (he : EOk e) :
    Calls Tryz.prog 45 #[.agg (stcells s A c), .agg (evcells e)] w fun e' w' => e' = .returned (.int .i64 (amt s e)) ∧ Ext w w' := by
  cases ht : thereB e.item s.lines with
  | true => exact amounts_yes s e A c w hr hv he ht
  | false => exact amounts_not s e A c w hr hv he ht
end Go.Proofs.YtjomgppbialeoaaGreat

namespace Go.Proofs.YtjomgppbialeoaaGreat
open Go.RowKit
set_option linter.unusedVariables false
set_option linter.unusedSimpArgs false
set_option maxRecDepth 100000 in
set_option maxHeartbeats 4000000 in
theorem judge_any (s : St) (e : Ev) (A : Option Addr) (c : Nat) (w : World) (hr : LsRd w A s.lines) (hn : s.lines.length ≤ 4611686018427387904) (hw : s.who.size ≤ 4611686018427387904) (hw2 : e.who.size ≤ 4611686018427387904) (hw3 : e.note.size ≤ 4611686018427387904) :
    Calls Tryz.prog 21 #[.agg (stcells s A c), .agg (evcells e)] w fun e' w' => e' = .returned (.int .i64 (judge s e)) ∧ Ext w w' := by
  have K1 := Lib.hid fun W (h : LsRd W A s.lines) => valid_any s A c W h hn hw
  have K2 := Lib.hid fun W => check5_any e W hw2 hw3
  have K3 := Lib.hid fun W (h : LsRd W A s.lines) => allows_any s e.kind A c W h hn
  have K4 := Lib.hid fun (hB : validB s = true) (hC : check5 e = 0) W (h : LsRd W A s.lines) => amounts_any s e A c W h (valid_iff.1 hB) (event_iff.1 hC)
  have Hv := Lib.hid (judge_amt s e)
  have HU : Hid (e.kind = 1 → useB s e.kind = decide (s.status = 0)) := Lib.hid fun h => by unfold useB; rw [if_pos h]
  unfold allowsB at K3
  generalize validB s = B at *
  generalize check5 e = C at *
  generalize useB s e.kind = U at *
  generalize amt s e = M at *
  generalize judge s e = R at *
  obtain ⟨order, status, prior, cur, tax, ls, paid, refunded, events, refused, stamp, who⟩ := s
  obtain ⟨ek, eo, ei, eq, ep, ec, et, ew, es, en⟩ := e
  unfold stcells evcells at *
  dsimp only at *
  generalize ls.length = n at *
  have HS := Lib.hid (fun w' (h : Ext ((w.alloc (.cells #[.int .i64 order, .int .i64 status, .int .i64 prior, .int .i64 cur, .int .i64 tax, .slice A n c, .int .i64 paid, .int .i64 refunded, .int .i64 events, .int .i64 refused, .int .i64 stamp, .string who] 25)).alloc (.cells #[.int .i64 ek, .int .i64 eo, .int .i64 ei, .int .i64 eq, .int .i64 ep, .int .i64 ec, .int .i64 et, .string ew, .int .i64 es, .string en] 38)) w') => (⟨h, (Ext.blk h (BlkA (BlkN rfl))).cell 0, (Ext.blk h (BlkA (BlkN rfl))).cell 1, (Ext.blk h (BlkA (BlkN rfl))).cell 2, (Ext.blk h (BlkA (BlkN rfl))).cell 3, (Ext.blk h (BlkA (BlkN rfl))).cell 4, (Ext.blk h (BlkA (BlkN rfl))).cell 5, (Ext.blk h (BlkA (BlkN rfl))).cell 6, (Ext.blk h (BlkA (BlkN rfl))).cell 7, (Ext.blk h (BlkA (BlkN rfl))).cell 8, (Ext.blk h (BlkA (BlkN rfl))).cell 9, (Ext.blk h (BlkA (BlkN rfl))).cell 10, (Ext.blk h (BlkA (BlkN rfl))).cell 11, (Ext.blk h (BlkN (by simp))).cell 0, (Ext.blk h (BlkN (by simp))).cell 1, (Ext.blk h (BlkN (by simp))).cell 2, (Ext.blk h (BlkN (by simp))).cell 3, (Ext.blk h (BlkN (by simp))).cell 4, (Ext.blk h (BlkN (by simp))).cell 5, (Ext.blk h (BlkN (by simp))).cell 6, (Ext.blk h (BlkN (by simp))).cell 7, (Ext.blk h (BlkN (by simp))).cell 8, (Ext.blk h (BlkN (by simp))).cell 9⟩ : (fun w' : World => Ext ((w.alloc (.cells #[.int .i64 order, .int .i64 status, .int .i64 prior, .int .i64 cur, .int .i64 tax, .slice A n c, .int .i64 paid, .int .i64 refunded, .int .i64 events, .int .i64 refused, .int .i64 stamp, .string who] 25)).alloc (.cells #[.int .i64 ek, .int .i64 eo, .int .i64 ei, .int .i64 eq, .int .i64 ep, .int .i64 ec, .int .i64 et, .string ew, .int .i64 es, .string en] 38)) w' ∧ w'.cell? ⟨w.heap.size, 0, none⟩ = some (.int .i64 order) ∧ w'.cell? ⟨w.heap.size, 1, none⟩ = some (.int .i64 status) ∧ w'.cell? ⟨w.heap.size, 2, none⟩ = some (.int .i64 prior) ∧ w'.cell? ⟨w.heap.size, 3, none⟩ = some (.int .i64 cur) ∧ w'.cell? ⟨w.heap.size, 4, none⟩ = some (.int .i64 tax) ∧ w'.cell? ⟨w.heap.size, 5, none⟩ = some (.slice A n c) ∧ w'.cell? ⟨w.heap.size, 6, none⟩ = some (.int .i64 paid) ∧ w'.cell? ⟨w.heap.size, 7, none⟩ = some (.int .i64 refunded) ∧ w'.cell? ⟨w.heap.size, 8, none⟩ = some (.int .i64 events) ∧ w'.cell? ⟨w.heap.size, 9, none⟩ = some (.int .i64 refused) ∧ w'.cell? ⟨w.heap.size, 10, none⟩ = some (.int .i64 stamp) ∧ w'.cell? ⟨w.heap.size, 11, none⟩ = some (.string who) ∧ w'.cell? ⟨w.heap.size + 1, 0, none⟩ = some (.int .i64 ek) ∧ w'.cell? ⟨w.heap.size + 1, 1, none⟩ = some (.int .i64 eo) ∧ w'.cell? ⟨w.heap.size + 1, 2, none⟩ = some (.int .i64 ei) ∧ w'.cell? ⟨w.heap.size + 1, 3, none⟩ = some (.int .i64 eq) ∧ w'.cell? ⟨w.heap.size + 1, 4, none⟩ = some (.int .i64 ep) ∧ w'.cell? ⟨w.heap.size + 1, 5, none⟩ = some (.int .i64 ec) ∧ w'.cell? ⟨w.heap.size + 1, 6, none⟩ = some (.int .i64 et) ∧ w'.cell? ⟨w.heap.size + 1, 7, none⟩ = some (.string ew) ∧ w'.cell? ⟨w.heap.size + 1, 8, none⟩ = some (.int .i64 es) ∧ w'.cell? ⟨w.heap.size + 1, 9, none⟩ = some (.string en)) w'))
  cases B with
  | false =>
    clear K4
    go_enter Tryz.func21, Tryz.ntmps21
    go_wp2_with (go_at_call 12; (with_reducible refine (K1.out _ (hr.ext (by repeat (first | with_reducible exact Below.refl _ _ | with_reducible assumption | with_reducible refine ExtD ?_ | with_reducible refine ExtDN ?_ | with_reducible refine ExtA ?_ | (with_reducible refine ExtR ?_ ?_; (first | omega | (dsimp only; omega) | (simp; done) | (simp; omega))) | (with_reducible refine ExtS ?_ ?_; (first | omega | (dsimp only; omega) | (simp; done) | (simp; omega))) | with_reducible refine Ext.tr ?_ (by with_reducible assumption))))).mono ?_); rintro e w1 ⟨rfl, hx1⟩; have h3 := HS.out w1 (by repeat (first | with_reducible exact Below.refl _ _ | with_reducible assumption | with_reducible refine ExtD ?_ | with_reducible refine ExtDN ?_ | with_reducible refine ExtA ?_ | (with_reducible refine ExtR ?_ ?_; (first | omega | (dsimp only; omega) | (simp; done) | (simp; omega))) | (with_reducible refine ExtS ?_ ?_; (first | omega | (dsimp only; omega) | (simp; done) | (simp; omega))) | with_reducible refine Ext.tr ?_ (by with_reducible assumption))); go_split_ands)
    go_ret
    exact ⟨by rw [Hv.out, if_pos (.inl (by trivial))]; rfl, (by repeat (first | with_reducible exact Below.refl _ _ | with_reducible assumption | with_reducible refine ExtD ?_ | with_reducible refine ExtDN ?_ | with_reducible refine ExtA ?_ | (with_reducible refine ExtR ?_ ?_; (first | omega | (dsimp only; omega) | (simp; done) | (simp; omega))) | (with_reducible refine ExtS ?_ ?_; (first | omega | (dsimp only; omega) | (simp; done) | (simp; omega))) | with_reducible refine Ext.tr ?_ (by with_reducible assumption)))⟩
  | true =>
    by_cases hC : C = 0
    · subst hC
      have KA := Lib.hid (K4.out rfl rfl)
      clear K4
      by_cases hs : status = 0
      · have s1 : (status == 0) = true := by simp; exact hs
        have s2 : (status != 0) = false := by simp; exact hs
        have Hs := Lib.hid hs
        clear hs
        by_cases hk : ek = 1
        · have k1 : (ek == 1) = true := by simp; exact hk
          have k2 : (ek != 1) = false := by simp; exact hk
          have Hk := Lib.hid hk
          clear hk
          go_enter Tryz.func21, Tryz.ntmps21
          go_wp2_with (first
            | (go_at_call 12; (with_reducible refine (K1.out _ (hr.ext (by repeat (first | with_reducible exact Below.refl _ _ | with_reducible assumption | with_reducible refine ExtD ?_ | with_reducible refine ExtDN ?_ | with_reducible refine ExtA ?_ | (with_reducible refine ExtR ?_ ?_; (first | omega | (dsimp only; omega) | (simp; done) | (simp; omega))) | (with_reducible refine ExtS ?_ ?_; (first | omega | (dsimp only; omega) | (simp; done) | (simp; omega))) | with_reducible refine Ext.tr ?_ (by with_reducible assumption))))).mono ?_); rintro e w1 ⟨rfl, hx1⟩; have h3 := HS.out w1 (by repeat (first | with_reducible exact Below.refl _ _ | with_reducible assumption | with_reducible refine ExtD ?_ | with_reducible refine ExtDN ?_ | with_reducible refine ExtA ?_ | (with_reducible refine ExtR ?_ ?_; (first | omega | (dsimp only; omega) | (simp; done) | (simp; omega))) | (with_reducible refine ExtS ?_ ?_; (first | omega | (dsimp only; omega) | (simp; done) | (simp; omega))) | with_reducible refine Ext.tr ?_ (by with_reducible assumption))); go_split_ands)
            | (go_at_call 43; (with_reducible refine (K2.out _).mono ?_); rintro e w2 ⟨rfl, hx2⟩; have h3 := HS.out w2 (by repeat (first | with_reducible exact Below.refl _ _ | with_reducible assumption | with_reducible refine ExtD ?_ | with_reducible refine ExtDN ?_ | with_reducible refine ExtA ?_ | (with_reducible refine ExtR ?_ ?_; (first | omega | (dsimp only; omega) | (simp; done) | (simp; omega))) | (with_reducible refine ExtS ?_ ?_; (first | omega | (dsimp only; omega) | (simp; done) | (simp; omega))) | with_reducible refine Ext.tr ?_ (by with_reducible assumption))); go_split_ands)
            | (go_at_call 44; (with_reducible refine (K3.out _ (hr.ext (by repeat (first | with_reducible exact Below.refl _ _ | with_reducible assumption | with_reducible refine ExtD ?_ | with_reducible refine ExtDN ?_ | with_reducible refine ExtA ?_ | (with_reducible refine ExtR ?_ ?_; (first | omega | (dsimp only; omega) | (simp; done) | (simp; omega))) | (with_reducible refine ExtS ?_ ?_; (first | omega | (dsimp only; omega) | (simp; done) | (simp; omega))) | with_reducible refine Ext.tr ?_ (by with_reducible assumption))))).mono ?_); rintro e w3 ⟨rfl, hx3⟩; have h3 := HS.out w3 (by repeat (first | with_reducible exact Below.refl _ _ | with_reducible assumption | with_reducible refine ExtD ?_ | with_reducible refine ExtDN ?_ | with_reducible refine ExtA ?_ | (with_reducible refine ExtR ?_ ?_; (first | omega | (dsimp only; omega) | (simp; done) | (simp; omega))) | (with_reducible refine ExtS ?_ ?_; (first | omega | (dsimp only; omega) | (simp; done) | (simp; omega))) | with_reducible refine Ext.tr ?_ (by with_reducible assumption))); go_split_ands)
            | (go_at_call 45; (with_reducible refine (KA.out _ (hr.ext (by repeat (first | with_reducible exact Below.refl _ _ | with_reducible assumption | with_reducible refine ExtD ?_ | with_reducible refine ExtDN ?_ | with_reducible refine ExtA ?_ | (with_reducible refine ExtR ?_ ?_; (first | omega | (dsimp only; omega) | (simp; done) | (simp; omega))) | (with_reducible refine ExtS ?_ ?_; (first | omega | (dsimp only; omega) | (simp; done) | (simp; omega))) | with_reducible refine Ext.tr ?_ (by with_reducible assumption))))).mono ?_); rintro e w4 ⟨rfl, hx4⟩))
          all_goals
            go_ret
            refine ⟨?_, (by repeat (first | with_reducible exact Below.refl _ _ | with_reducible assumption | with_reducible refine ExtD ?_ | with_reducible refine ExtDN ?_ | with_reducible refine ExtA ?_ | (with_reducible refine ExtR ?_ ?_; (first | omega | (dsimp only; omega) | (simp; done) | (simp; omega))) | (with_reducible refine ExtS ?_ ?_; (first | omega | (dsimp only; omega) | (simp; done) | (simp; omega))) | with_reducible refine Ext.tr ?_ (by with_reducible assumption)))⟩
            have hU := HU.out
            have hs := Hs.out
            have hk := Hk.out
            rw [Hv.out]
            clear K1 K2 K3 KA HS Hv HU
            first | (simp only [beq_iff_eq, beq_eq_false_iff_ne, ne_eq, bne_iff_ne, bne_eq_false_iff_eq] at *) | skip
            first | rfl | (simp [*]; done) | (simp [*]; omega) | (simp [*]; split <;> omega) | (simp_all; done)
        · have k1 : (ek == 1) = false := by simp; exact hk
          have k2 : (ek != 1) = true := by simp; exact hk
          have Hk := Lib.hid hk
          clear hk
          go_enter Tryz.func21, Tryz.ntmps21
          go_wp2_with (first
            | (go_at_call 12; (with_reducible refine (K1.out _ (hr.ext (by repeat (first | with_reducible exact Below.refl _ _ | with_reducible assumption | with_reducible refine ExtD ?_ | with_reducible refine ExtDN ?_ | with_reducible refine ExtA ?_ | (with_reducible refine ExtR ?_ ?_; (first | omega | (dsimp only; omega) | (simp; done) | (simp; omega))) | (with_reducible refine ExtS ?_ ?_; (first | omega | (dsimp only; omega) | (simp; done) | (simp; omega))) | with_reducible refine Ext.tr ?_ (by with_reducible assumption))))).mono ?_); rintro e w1 ⟨rfl, hx1⟩; have h3 := HS.out w1 (by repeat (first | with_reducible exact Below.refl _ _ | with_reducible assumption | with_reducible refine ExtD ?_ | with_reducible refine ExtDN ?_ | with_reducible refine ExtA ?_ | (with_reducible refine ExtR ?_ ?_; (first | omega | (dsimp only; omega) | (simp; done) | (simp; omega))) | (with_reducible refine ExtS ?_ ?_; (first | omega | (dsimp only; omega) | (simp; done) | (simp; omega))) | with_reducible refine Ext.tr ?_ (by with_reducible assumption))); go_split_ands)
            | (go_at_call 43; (with_reducible refine (K2.out _).mono ?_); rintro e w2 ⟨rfl, hx2⟩; have h3 := HS.out w2 (by repeat (first | with_reducible exact Below.refl _ _ | with_reducible assumption | with_reducible refine ExtD ?_ | with_reducible refine ExtDN ?_ | with_reducible refine ExtA ?_ | (with_reducible refine ExtR ?_ ?_; (first | omega | (dsimp only; omega) | (simp; done) | (simp; omega))) | (with_reducible refine ExtS ?_ ?_; (first | omega | (dsimp only; omega) | (simp; done) | (simp; omega))) | with_reducible refine Ext.tr ?_ (by with_reducible assumption))); go_split_ands)
            | (go_at_call 44; (with_reducible refine (K3.out _ (hr.ext (by repeat (first | with_reducible exact Below.refl _ _ | with_reducible assumption | with_reducible refine ExtD ?_ | with_reducible refine ExtDN ?_ | with_reducible refine ExtA ?_ | (with_reducible refine ExtR ?_ ?_; (first | omega | (dsimp only; omega) | (simp; done) | (simp; omega))) | (with_reducible refine ExtS ?_ ?_; (first | omega | (dsimp only; omega) | (simp; done) | (simp; omega))) | with_reducible refine Ext.tr ?_ (by with_reducible assumption))))).mono ?_); rintro e w3 ⟨rfl, hx3⟩; have h3 := HS.out w3 (by repeat (first | with_reducible exact Below.refl _ _ | with_reducible assumption | with_reducible refine ExtD ?_ | with_reducible refine ExtDN ?_ | with_reducible refine ExtA ?_ | (with_reducible refine ExtR ?_ ?_; (first | omega | (dsimp only; omega) | (simp; done) | (simp; omega))) | (with_reducible refine ExtS ?_ ?_; (first | omega | (dsimp only; omega) | (simp; done) | (simp; omega))) | with_reducible refine Ext.tr ?_ (by with_reducible assumption))); go_split_ands)
            | (go_at_call 45; (with_reducible refine (KA.out _ (hr.ext (by repeat (first | with_reducible exact Below.refl _ _ | with_reducible assumption | with_reducible refine ExtD ?_ | with_reducible refine ExtDN ?_ | with_reducible refine ExtA ?_ | (with_reducible refine ExtR ?_ ?_; (first | omega | (dsimp only; omega) | (simp; done) | (simp; omega))) | (with_reducible refine ExtS ?_ ?_; (first | omega | (dsimp only; omega) | (simp; done) | (simp; omega))) | with_reducible refine Ext.tr ?_ (by with_reducible assumption))))).mono ?_); rintro e w4 ⟨rfl, hx4⟩))
          all_goals
            go_ret
            refine ⟨?_, (by repeat (first | with_reducible exact Below.refl _ _ | with_reducible assumption | with_reducible refine ExtD ?_ | with_reducible refine ExtDN ?_ | with_reducible refine ExtA ?_ | (with_reducible refine ExtR ?_ ?_; (first | omega | (dsimp only; omega) | (simp; done) | (simp; omega))) | (with_reducible refine ExtS ?_ ?_; (first | omega | (dsimp only; omega) | (simp; done) | (simp; omega))) | with_reducible refine Ext.tr ?_ (by with_reducible assumption)))⟩
            have hU := HU.out
            have hs := Hs.out
            have hk := Hk.out
            rw [Hv.out]
            clear K1 K2 K3 KA HS Hv HU
            first | (simp only [beq_iff_eq, beq_eq_false_iff_ne, ne_eq, bne_iff_ne, bne_eq_false_iff_eq] at *) | skip
            first | rfl | (simp [*]; done) | (simp [*]; omega) | (simp [*]; split <;> omega) | (simp_all; done)
      · have s1 : (status == 0) = false := by simp; exact hs
        have s2 : (status != 0) = true := by simp; exact hs
        have Hs := Lib.hid hs
        clear hs
        by_cases hk : ek = 1
        · have k1 : (ek == 1) = true := by simp; exact hk
          have k2 : (ek != 1) = false := by simp; exact hk
          have Hk := Lib.hid hk
          clear hk
          go_enter Tryz.func21, Tryz.ntmps21
          go_wp2_with (first
            | (go_at_call 12; (with_reducible refine (K1.out _ (hr.ext (by repeat (first | with_reducible exact Below.refl _ _ | with_reducible assumption | with_reducible refine ExtD ?_ | with_reducible refine ExtDN ?_ | with_reducible refine ExtA ?_ | (with_reducible refine ExtR ?_ ?_; (first | omega | (dsimp only; omega) | (simp; done) | (simp; omega))) | (with_reducible refine ExtS ?_ ?_; (first | omega | (dsimp only; omega) | (simp; done) | (simp; omega))) | with_reducible refine Ext.tr ?_ (by with_reducible assumption))))).mono ?_); rintro e w1 ⟨rfl, hx1⟩; have h3 := HS.out w1 (by repeat (first | with_reducible exact Below.refl _ _ | with_reducible assumption | with_reducible refine ExtD ?_ | with_reducible refine ExtDN ?_ | with_reducible refine ExtA ?_ | (with_reducible refine ExtR ?_ ?_; (first | omega | (dsimp only; omega) | (simp; done) | (simp; omega))) | (with_reducible refine ExtS ?_ ?_; (first | omega | (dsimp only; omega) | (simp; done) | (simp; omega))) | with_reducible refine Ext.tr ?_ (by with_reducible assumption))); go_split_ands)
            | (go_at_call 43; (with_reducible refine (K2.out _).mono ?_); rintro e w2 ⟨rfl, hx2⟩; have h3 := HS.out w2 (by repeat (first | with_reducible exact Below.refl _ _ | with_reducible assumption | with_reducible refine ExtD ?_ | with_reducible refine ExtDN ?_ | with_reducible refine ExtA ?_ | (with_reducible refine ExtR ?_ ?_; (first | omega | (dsimp only; omega) | (simp; done) | (simp; omega))) | (with_reducible refine ExtS ?_ ?_; (first | omega | (dsimp only; omega) | (simp; done) | (simp; omega))) | with_reducible refine Ext.tr ?_ (by with_reducible assumption))); go_split_ands)
            | (go_at_call 44; (with_reducible refine (K3.out _ (hr.ext (by repeat (first | with_reducible exact Below.refl _ _ | with_reducible assumption | with_reducible refine ExtD ?_ | with_reducible refine ExtDN ?_ | with_reducible refine ExtA ?_ | (with_reducible refine ExtR ?_ ?_; (first | omega | (dsimp only; omega) | (simp; done) | (simp; omega))) | (with_reducible refine ExtS ?_ ?_; (first | omega | (dsimp only; omega) | (simp; done) | (simp; omega))) | with_reducible refine Ext.tr ?_ (by with_reducible assumption))))).mono ?_); rintro e w3 ⟨rfl, hx3⟩; have h3 := HS.out w3 (by repeat (first | with_reducible exact Below.refl _ _ | with_reducible assumption | with_reducible refine ExtD ?_ | with_reducible refine ExtDN ?_ | with_reducible refine ExtA ?_ | (with_reducible refine ExtR ?_ ?_; (first | omega | (dsimp only; omega) | (simp; done) | (simp; omega))) | (with_reducible refine ExtS ?_ ?_; (first | omega | (dsimp only; omega) | (simp; done) | (simp; omega))) | with_reducible refine Ext.tr ?_ (by with_reducible assumption))); go_split_ands)
            | (go_at_call 45; (with_reducible refine (KA.out _ (hr.ext (by repeat (first | with_reducible exact Below.refl _ _ | with_reducible assumption | with_reducible refine ExtD ?_ | with_reducible refine ExtDN ?_ | with_reducible refine ExtA ?_ | (with_reducible refine ExtR ?_ ?_; (first | omega | (dsimp only; omega) | (simp; done) | (simp; omega))) | (with_reducible refine ExtS ?_ ?_; (first | omega | (dsimp only; omega) | (simp; done) | (simp; omega))) | with_reducible refine Ext.tr ?_ (by with_reducible assumption))))).mono ?_); rintro e w4 ⟨rfl, hx4⟩))
          all_goals
            go_ret
            refine ⟨?_, (by repeat (first | with_reducible exact Below.refl _ _ | with_reducible assumption | with_reducible refine ExtD ?_ | with_reducible refine ExtDN ?_ | with_reducible refine ExtA ?_ | (with_reducible refine ExtR ?_ ?_; (first | omega | (dsimp only; omega) | (simp; done) | (simp; omega))) | (with_reducible refine ExtS ?_ ?_; (first | omega | (dsimp only; omega) | (simp; done) | (simp; omega))) | with_reducible refine Ext.tr ?_ (by with_reducible assumption)))⟩
            have hU := HU.out
            have hs := Hs.out
            have hk := Hk.out
            rw [Hv.out]
            clear K1 K2 K3 KA HS Hv HU
            first | (simp only [beq_iff_eq, beq_eq_false_iff_ne, ne_eq, bne_iff_ne, bne_eq_false_iff_eq] at *) | skip
            first | rfl | (simp [*]; done) | (simp [*]; omega) | (simp [*]; split <;> omega) | (simp_all; done)
        · have k1 : (ek == 1) = false := by simp; exact hk
          have k2 : (ek != 1) = true := by simp; exact hk
          have k3 : decide (ek ≠ 1) = true := by simp; exact hk
          have Hk := Lib.hid hk
          clear hk
          rw [k3, Bool.true_and] at K3
          go_enter Tryz.func21, Tryz.ntmps21
          go_wp2_with (first
            | (go_at_call 12; (with_reducible refine (K1.out _ (hr.ext (by repeat (first | with_reducible exact Below.refl _ _ | with_reducible assumption | with_reducible refine ExtD ?_ | with_reducible refine ExtDN ?_ | with_reducible refine ExtA ?_ | (with_reducible refine ExtR ?_ ?_; (first | omega | (dsimp only; omega) | (simp; done) | (simp; omega))) | (with_reducible refine ExtS ?_ ?_; (first | omega | (dsimp only; omega) | (simp; done) | (simp; omega))) | with_reducible refine Ext.tr ?_ (by with_reducible assumption))))).mono ?_); rintro e w1 ⟨rfl, hx1⟩; have h3 := HS.out w1 (by repeat (first | with_reducible exact Below.refl _ _ | with_reducible assumption | with_reducible refine ExtD ?_ | with_reducible refine ExtDN ?_ | with_reducible refine ExtA ?_ | (with_reducible refine ExtR ?_ ?_; (first | omega | (dsimp only; omega) | (simp; done) | (simp; omega))) | (with_reducible refine ExtS ?_ ?_; (first | omega | (dsimp only; omega) | (simp; done) | (simp; omega))) | with_reducible refine Ext.tr ?_ (by with_reducible assumption))); go_split_ands)
            | (go_at_call 43; (with_reducible refine (K2.out _).mono ?_); rintro e w2 ⟨rfl, hx2⟩; have h3 := HS.out w2 (by repeat (first | with_reducible exact Below.refl _ _ | with_reducible assumption | with_reducible refine ExtD ?_ | with_reducible refine ExtDN ?_ | with_reducible refine ExtA ?_ | (with_reducible refine ExtR ?_ ?_; (first | omega | (dsimp only; omega) | (simp; done) | (simp; omega))) | (with_reducible refine ExtS ?_ ?_; (first | omega | (dsimp only; omega) | (simp; done) | (simp; omega))) | with_reducible refine Ext.tr ?_ (by with_reducible assumption))); go_split_ands)
            | (go_at_call 44; (with_reducible refine (K3.out _ (hr.ext (by repeat (first | with_reducible exact Below.refl _ _ | with_reducible assumption | with_reducible refine ExtD ?_ | with_reducible refine ExtDN ?_ | with_reducible refine ExtA ?_ | (with_reducible refine ExtR ?_ ?_; (first | omega | (dsimp only; omega) | (simp; done) | (simp; omega))) | (with_reducible refine ExtS ?_ ?_; (first | omega | (dsimp only; omega) | (simp; done) | (simp; omega))) | with_reducible refine Ext.tr ?_ (by with_reducible assumption))))).mono ?_); rintro e w3 ⟨rfl, hx3⟩; have h3 := HS.out w3 (by repeat (first | with_reducible exact Below.refl _ _ | with_reducible assumption | with_reducible refine ExtD ?_ | with_reducible refine ExtDN ?_ | with_reducible refine ExtA ?_ | (with_reducible refine ExtR ?_ ?_; (first | omega | (dsimp only; omega) | (simp; done) | (simp; omega))) | (with_reducible refine ExtS ?_ ?_; (first | omega | (dsimp only; omega) | (simp; done) | (simp; omega))) | with_reducible refine Ext.tr ?_ (by with_reducible assumption))); go_split_ands)
            | (go_at_call 45; (with_reducible refine (KA.out _ (hr.ext (by repeat (first | with_reducible exact Below.refl _ _ | with_reducible assumption | with_reducible refine ExtD ?_ | with_reducible refine ExtDN ?_ | with_reducible refine ExtA ?_ | (with_reducible refine ExtR ?_ ?_; (first | omega | (dsimp only; omega) | (simp; done) | (simp; omega))) | (with_reducible refine ExtS ?_ ?_; (first | omega | (dsimp only; omega) | (simp; done) | (simp; omega))) | with_reducible refine Ext.tr ?_ (by with_reducible assumption))))).mono ?_); rintro e w4 ⟨rfl, hx4⟩))
          all_goals
            go_ret
            refine ⟨?_, (by repeat (first | with_reducible exact Below.refl _ _ | with_reducible assumption | with_reducible refine ExtD ?_ | with_reducible refine ExtDN ?_ | with_reducible refine ExtA ?_ | (with_reducible refine ExtR ?_ ?_; (first | omega | (dsimp only; omega) | (simp; done) | (simp; omega))) | (with_reducible refine ExtS ?_ ?_; (first | omega | (dsimp only; omega) | (simp; done) | (simp; omega))) | with_reducible refine Ext.tr ?_ (by with_reducible assumption)))⟩
            have hU := HU.out
            have hs := Hs.out
            have hk := Hk.out
            rw [Hv.out]
            clear K1 K2 K3 KA HS Hv HU
            first | (simp only [beq_iff_eq, beq_eq_false_iff_ne, ne_eq, bne_iff_ne, bne_eq_false_iff_eq] at *) | skip
            first | rfl | (simp [*]; done) | (simp [*]; omega) | (simp [*]; split <;> omega) | (simp_all; done)
    · have hC1 : ((C : Int) != 0) = true := by simp; exact hC
      have HC := Lib.hid hC
      clear K4 hC
      go_enter Tryz.func21, Tryz.ntmps21
      go_wp2_with (first
        | (go_at_call 12; (with_reducible refine (K1.out _ (hr.ext (by repeat (first | with_reducible exact Below.refl _ _ | with_reducible assumption | with_reducible refine ExtD ?_ | with_reducible refine ExtDN ?_ | with_reducible refine ExtA ?_ | (with_reducible refine ExtR ?_ ?_; (first | omega | (dsimp only; omega) | (simp; done) | (simp; omega))) | (with_reducible refine ExtS ?_ ?_; (first | omega | (dsimp only; omega) | (simp; done) | (simp; omega))) | with_reducible refine Ext.tr ?_ (by with_reducible assumption))))).mono ?_); rintro e w1 ⟨rfl, hx1⟩; have h3 := HS.out w1 (by repeat (first | with_reducible exact Below.refl _ _ | with_reducible assumption | with_reducible refine ExtD ?_ | with_reducible refine ExtDN ?_ | with_reducible refine ExtA ?_ | (with_reducible refine ExtR ?_ ?_; (first | omega | (dsimp only; omega) | (simp; done) | (simp; omega))) | (with_reducible refine ExtS ?_ ?_; (first | omega | (dsimp only; omega) | (simp; done) | (simp; omega))) | with_reducible refine Ext.tr ?_ (by with_reducible assumption))); go_split_ands)
        | (go_at_call 43; (with_reducible refine (K2.out _).mono ?_); rintro e w2 ⟨rfl, hx2⟩))
      go_ret
      exact ⟨by rw [Hv.out, if_pos (.inr (.inl HC.out))]; rfl, (by repeat (first | with_reducible exact Below.refl _ _ | with_reducible assumption | with_reducible refine ExtD ?_ | with_reducible refine ExtDN ?_ | with_reducible refine ExtA ?_ | (with_reducible refine ExtR ?_ ?_; (first | omega | (dsimp only; omega) | (simp; done) | (simp; omega))) | (with_reducible refine ExtS ?_ ?_; (first | omega | (dsimp only; omega) | (simp; done) | (simp; omega))) | with_reducible refine Ext.tr ?_ (by with_reducible assumption)))⟩
end Go.Proofs.YtjomgppbialeoaaGreat
