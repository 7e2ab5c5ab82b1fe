/-
  The walk of OrderAllows.
-/
import Derived.Test.YtlpjhnecihhkfaaOrdRe
import Derived.Test.YtlpjhnecihhkfaaOrdRd
import Derived.Test.YtlpjhnecihhkfaaOrdAk
import Derived.Test.YtlpjhnecihhkfaaOrdAf
import Derived.Test.YtlpjhnecihhkfaaOrdAg
import Derived.Test.YtlpjhnecihhkfaaOrdLawA
namespace Go.Proofs.Ytlpjhnecihhkfaa
open Go.RowKit
set_option linter.unusedVariables false
set_option linter.unusedSimpArgs false
theorem own_some {w : World} {base n c : Nat} {e : TypeId} {s : Nat} {A : Option Addr} {xs : List Value} (h : w.ownsRow base e s (.slice A n c) n xs) (hn : 0 < n) : ∃ g, A = some ⟨g, 0, none⟩ ∧ base ≤ g := by
  obtain ⟨_, ⟨h1, h2⟩ | ⟨g, cap, cur, h1, hg, _⟩⟩ := h
  · omega
  · simp at h1; exact ⟨g, h1.1, hg⟩
theorem allowed_no : allowed (noSt 7) = [1] := by decide +kernel
theorem allowed7 (W : World) : Calls Try.prog 13 #[.agg (stcells (noSt 7) none 0)] W fun e' w' => ∃ g c, e' = .returned (.slice (some ⟨g, 0, none⟩) 1 c) ∧ Ext W w' ∧ w'.cell? ⟨g, 0, none⟩ = some (.int .i64 1) := by
  refine (allowed_any (noSt 7) none 0 W (RdN.nil_ _ _ _) (by decide) (by decide)).mono ?_
  rintro e' w' ⟨A, c, he, hx, ho⟩
  rw [allowed_no] at he ho
  obtain ⟨g, rfl, hg⟩ := own_some ho (by decide)
  exact ⟨g, c, he, hx, by rw [World.ownsRow.cellAt ho 0 (by decide)]; rfl⟩
theorem allowed_pos {s : St} (hv : VOk s) : 0 < (kindsN s 10).length := by
  have h : ∃ x, x ∈ kindsN s 10 := by
    have h1 := hv.status
    have key : ∀ x : Int, 1 ≤ x → x ≤ 10 → useB s x = true → ∃ x, x ∈ kindsN s 10 := fun x a b c => ⟨x, kinds_mem.2 ⟨a, b, c⟩⟩
    obtain h | h | h | h | h | h : s.status = 0 ∨ s.status = 1 ∨ s.status = 2 ∨ s.status = 3 ∨ s.status = 4 ∨ s.status = 5 := by omega
    · exact key 1 (by omega) (by omega) (by simp [useB, h])
    · exact key 3 (by omega) (by omega) (by simp [useB, h])
    · exact key 9 (by omega) (by omega) (by simp [useB, h])
    · exact key 7 (by omega) (by omega) (by simp [useB, h])
    · exact key 7 (by omega) (by omega) (by simp [useB, h])
    · exact key 7 (by omega) (by omega) (by simp [useB, h])
  obtain ⟨x, hx⟩ := h
  exact List.length_pos_of_mem hx
theorem amt_not (s : St) (e : Ev) : amt s e ≠ 1 ∧ amt s e ≠ 2 ∧ amt s e ≠ 3 ∧ amt s e ≠ 4 ∧ amt s e ≠ 5 := by
  unfold amt
  repeat' split
  all_goals decide
theorem use_none {s : St} {k : Int} (h : s.status = 0) (hk : k ≠ 1) : useB s k = false := by
  unfold useB
  rw [if_neg hk]
  repeat' split
  all_goals simp [h]
theorem use_again {s : St} (h : s.status ≠ 0) : useB s 1 = false := by simp [useB, h]
/-- What a reason says of a valid state. -/
theorem judge_allows {s : St} {e : Ev} (hv : validB s = true) :
    (judge s e = 1 ∧ (check5 e ≠ 0 ∨ s.events = 1099511627776)) ∨ (judge s e = 2 ∧ check5 e = 0 ∧ s.events ≠ 1099511627776 ∧ e.order ≠ s.order) ∨
    (judge s e ≠ 1 ∧ judge s e ≠ 2 ∧ (((kindsN s 10).any (fun x => x == e.kind) = true ∧ judge s e ≠ 3 ∧ judge s e ≠ 4 ∧ judge s e ≠ 5) ∨ ((kindsN s 10).any (fun x => x == e.kind) = false ∧ (judge s e = 3 ∨ judge s e = 4 ∨ judge s e = 5)))) := by
  have hj := judge_amt s e
  by_cases h1 : validB s = false ∨ check5 e ≠ 0 ∨ s.events = 1099511627776
  · rw [if_pos h1] at hj
    exact .inl ⟨hj, by rcases h1 with h | h; (rw [hv] at h; cases h); exact h⟩
  rw [if_neg h1] at hj
  have hC : check5 e = 0 := Decidable.byContradiction fun h => h1 (.inr (.inl h))
  have hE : s.events ≠ 1099511627776 := fun h => h1 (.inr (.inr h))
  have hk := (event_iff.1 hC).kind
  by_cases h2 : e.order ≠ s.order
  · rw [if_pos h2] at hj
    exact .inr (.inl ⟨hj, hC, hE, h2⟩)
  rw [if_neg h2] at hj
  have hany : (kindsN s 10).any (fun x => x == e.kind) = useB s e.kind := by
    rw [Bool.eq_iff_iff, List.any_eq_true]
    constructor
    · rintro ⟨x, hx, he⟩
      have := (kinds_mem.1 hx).2.2
      rwa [beq_iff_eq.1 he] at this
    · intro h
      exact ⟨e.kind, kinds_mem.2 ⟨hk.1, by have := hk.2; omega, h⟩, by simp⟩
  rw [hany]
  refine .inr (.inr ?_)
  by_cases h3 : s.status = 0 ∧ e.kind ≠ 1
  · rw [if_pos h3] at hj
    exact ⟨by omega, by omega, .inr ⟨use_none h3.1 h3.2, by omega⟩⟩
  rw [if_neg h3] at hj
  by_cases h4 : s.status ≠ 0 ∧ e.kind = 1
  · rw [if_pos h4] at hj
    exact ⟨by omega, by omega, .inr ⟨by rw [h4.2]; exact use_again h4.1, by omega⟩⟩
  rw [if_neg h4] at hj
  cases hu : useB s e.kind with
  | false =>
    rw [if_pos hu] at hj
    exact ⟨by omega, by omega, .inr ⟨rfl, by omega⟩⟩
  | true =>
    rw [if_neg (by simp [hu])] at hj
    have := amt_not s e
    exact ⟨by omega, by omega, .inl ⟨rfl, by omega, by omega, by omega⟩⟩
def LpA (W : World) (F : Nat → List Int) (c7 c8 : Value) (wr : World) : Prop := ∃ k : Nat, 1 ≤ k ∧ k ≤ 11 ∧ c8 = .int .i64 (k : Nat) ∧ c7 = .int .i64 ((F (k - 1)).length : Nat) ∧ Ext W wr
def LpB (W : World) (base g L c : Nat) (c61 : Value) (wr : World) : Prop := ∃ (k : Nat) (xs : List Value), k ≤ L ∧ c61 = .int .i64 (k : Nat) ∧ Ext W wr ∧ wr.ownsRow base 26 1 (.slice (some ⟨g, 0, none⟩) L c) L xs
def LpC (W : World) (l : List Int) (x : Int) (c10 c72 : Value) (wr : World) : Prop := ∃ k : Nat, k ≤ l.length ∧ c72 = .int .i64 (k : Nat) ∧ c10 = .bool ((l.take k).any (fun y => y == x)) ∧ Ext W wr
theorem any_take {l : List Int} {x : Int} {k : Nat} (h : k < l.length) : (l.take (k + 1)).any (fun y => y == x) = ((l.take k).any (fun y => y == x) || l[k] == x) := by
  rw [List.take_succ_eq_append_getElem h, List.any_append]
  simp
set_option maxRecDepth 100000 in
set_option maxHeartbeats 4000000 in
theorem orderAllows_walk (s : St) (A : Option Addr) (c : Nat) (e : Ev) (w : World) (hr : LsRd w A s.lines) (hs : StWf s) (he : EvWf e) :
    Calls Try.prog 3 #[.agg (stcells s A c), .agg (evcells e)] w fun e w' => e = .returned (.bool true) ∧ Ext w w' := by
  have hlen := hs.2.2.2.1
  have hwho := hs.2.2.1
  have hse := ev_sm he
  have K0 := Lib.hid fun W => empty_any 7 W
  have K1 := Lib.hid allowed7
  have K3 := Lib.hid fun W (h : LsRd W A s.lines) => scopy_any s A c W h (by omega)
  have KA := Lib.hid fun A' c' W (h : LsRd W A' s.lines) => allowed_any s A' c' W h (by omega) (by omega)
  have KV := Lib.hid fun W (h : LsRd W A s.lines) => rvalid_any s A c W h (by omega) (by omega)
  have KU : Hid (validB s = true → ∀ k W, LsRd W A s.lines → Calls Try.prog 17 #[.agg (stcells s A c), .int .i64 k] W fun e w' => e = .returned (.bool (useB s k)) ∧ Ext W w') := Lib.hid fun hv k W h => ruse_any s k A c W h (fun l hl => (lnB_iff.1 (rises_mem (valid_iff.1 hv).rises l hl).1).2.2.2.1) (by omega)
  have KJ := Lib.hid fun A' c' W (h : LsRd W A' s.lines) => judge_any s e A' c' W h (by omega) (by omega) hse.1 hse.2
  have KC := Lib.hid fun W => rcheck5_any e W hse.1 hse.2
  have HJ := Lib.hid (judge_allows (s := s) (e := e))
  have Hpos : Hid (validB s = true → 0 < (kindsN s 10).length) := Lib.hid fun hv => allowed_pos (valid_iff.1 hv)
  have Hal : Hid (allowed s = if validB s then kindsN s 10 else []) := Lib.hid rfl
  have Hat : Hid (∀ k : Nat, 1 ≤ k → k ≤ 10 → useB s (k : Int) = true → (kindsN s (k - 1)).length < (kindsN s 10).length ∧ (kindsN s 10)[(kindsN s (k - 1)).length]? = some (k : Int) ∧ (kindsN s k).length = (kindsN s (k - 1)).length + 1) := Lib.hid fun k a b h => ⟨(kinds_at a b h).1, (kinds_at a b h).2, by rw [kinds_yes a h]; simp⟩
  have HF0 : Hid ((kindsN s 0).length = 0) := Lib.hid rfl
  have Han : Hid (∀ k : Nat, 1 ≤ k → useB s (k : Int) = false → (kindsN s k).length = (kindsN s (k - 1)).length) := Lib.hid fun k a h => by rw [kinds_not a h]
  unfold CopPost at K3
  unfold AlPost at KA
  clear hs he hse hlen hwho
  generalize validB s = V at *
  cases V with
  | false =>
    have hz : allowed s = [] := Hal.out
    rw [hz] at KA
    clear KU HJ Hpos Hal Hat Han KJ KC hz HF0
    obtain ⟨order, status, prior, cur, tax, ls, paid, refunded, events, refused, stamp, who⟩ := s
    obtain ⟨ek, eo, ei, eq, ep, ec, et, ew, es, en⟩ := e
    unfold stcells evcells at *
    dsimp only at *
    generalize ls.length = n at *
    have HS := Lib.hid (fun w' (h : Ext ((w.alloc (.cells #[.int .i64 order, .int .i64 status, .int .i64 prior, .int .i64 cur, .int .i64 tax, .slice A n c, .int .i64 paid, .int .i64 refunded, .int .i64 events, .int .i64 refused, .int .i64 stamp, .string who] 25)).alloc (.cells #[.int .i64 ek, .int .i64 eo, .int .i64 ei, .int .i64 eq, .int .i64 ep, .int .i64 ec, .int .i64 et, .string ew, .int .i64 es, .string en] 28)) w') => (⟨h, (Ext.blk h (BlkA (BlkN rfl))).cell 0, (Ext.blk h (BlkA (BlkN rfl))).cell 1, (Ext.blk h (BlkA (BlkN rfl))).cell 2, (Ext.blk h (BlkA (BlkN rfl))).cell 3, (Ext.blk h (BlkA (BlkN rfl))).cell 4, (Ext.blk h (BlkA (BlkN rfl))).cell 5, (Ext.blk h (BlkA (BlkN rfl))).cell 6, (Ext.blk h (BlkA (BlkN rfl))).cell 7, (Ext.blk h (BlkA (BlkN rfl))).cell 8, (Ext.blk h (BlkA (BlkN rfl))).cell 9, (Ext.blk h (BlkA (BlkN rfl))).cell 10, (Ext.blk h (BlkA (BlkN rfl))).cell 11, (Ext.blk h (BlkN (by simp))).cell 0, (Ext.blk h (BlkN (by simp))).cell 1, (Ext.blk h (BlkN (by simp))).cell 2, (Ext.blk h (BlkN (by simp))).cell 3, (Ext.blk h (BlkN (by simp))).cell 4, (Ext.blk h (BlkN (by simp))).cell 5, (Ext.blk h (BlkN (by simp))).cell 6, (Ext.blk h (BlkN (by simp))).cell 7, (Ext.blk h (BlkN (by simp))).cell 8, (Ext.blk h (BlkN (by simp))).cell 9⟩ : (fun w' : World => Ext ((w.alloc (.cells #[.int .i64 order, .int .i64 status, .int .i64 prior, .int .i64 cur, .int .i64 tax, .slice A n c, .int .i64 paid, .int .i64 refunded, .int .i64 events, .int .i64 refused, .int .i64 stamp, .string who] 25)).alloc (.cells #[.int .i64 ek, .int .i64 eo, .int .i64 ei, .int .i64 eq, .int .i64 ep, .int .i64 ec, .int .i64 et, .string ew, .int .i64 es, .string en] 28)) w' ∧ w'.cell? ⟨w.heap.size, 0, none⟩ = some (.int .i64 order) ∧ w'.cell? ⟨w.heap.size, 1, none⟩ = some (.int .i64 status) ∧ w'.cell? ⟨w.heap.size, 2, none⟩ = some (.int .i64 prior) ∧ w'.cell? ⟨w.heap.size, 3, none⟩ = some (.int .i64 cur) ∧ w'.cell? ⟨w.heap.size, 4, none⟩ = some (.int .i64 tax) ∧ w'.cell? ⟨w.heap.size, 5, none⟩ = some (.slice A n c) ∧ w'.cell? ⟨w.heap.size, 6, none⟩ = some (.int .i64 paid) ∧ w'.cell? ⟨w.heap.size, 7, none⟩ = some (.int .i64 refunded) ∧ w'.cell? ⟨w.heap.size, 8, none⟩ = some (.int .i64 events) ∧ w'.cell? ⟨w.heap.size, 9, none⟩ = some (.int .i64 refused) ∧ w'.cell? ⟨w.heap.size, 10, none⟩ = some (.int .i64 stamp) ∧ w'.cell? ⟨w.heap.size, 11, none⟩ = some (.string who) ∧ w'.cell? ⟨w.heap.size + 1, 0, none⟩ = some (.int .i64 ek) ∧ w'.cell? ⟨w.heap.size + 1, 1, none⟩ = some (.int .i64 eo) ∧ w'.cell? ⟨w.heap.size + 1, 2, none⟩ = some (.int .i64 ei) ∧ w'.cell? ⟨w.heap.size + 1, 3, none⟩ = some (.int .i64 eq) ∧ w'.cell? ⟨w.heap.size + 1, 4, none⟩ = some (.int .i64 ep) ∧ w'.cell? ⟨w.heap.size + 1, 5, none⟩ = some (.int .i64 ec) ∧ w'.cell? ⟨w.heap.size + 1, 6, none⟩ = some (.int .i64 et) ∧ w'.cell? ⟨w.heap.size + 1, 7, none⟩ = some (.string ew) ∧ w'.cell? ⟨w.heap.size + 1, 8, none⟩ = some (.int .i64 es) ∧ w'.cell? ⟨w.heap.size + 1, 9, none⟩ = some (.string en)) w'))
    go_enter Try.func3, Try.ntmps3
    go_wp2_with (first
      | (go_at_call 14; (with_reducible refine (K0.out _).mono ?_); rintro e w1 ⟨rfl, hx1⟩)
      | (go_at_call 13; (with_reducible refine (K1.out _).mono ?_); rintro e w2 ⟨g, c1, rfl, hx2, hc2⟩; have h3 := HS.out w2 (by repeat (first | with_reducible exact Below.refl _ _ | with_reducible assumption | with_reducible refine ExtD ?_ | with_reducible refine ExtDN ?_ | with_reducible refine ExtA ?_ | (with_reducible refine ExtR ?_ ?_; (first | omega | (dsimp only; omega) | (simp; done) | (simp; omega))) | (with_reducible refine ExtS ?_ ?_; (first | omega | (dsimp only; omega) | (simp; done) | (simp; omega))) | with_reducible refine Ext.tr ?_ (by with_reducible assumption))); go_split_ands)
      | (go_at_call 15; (with_reducible refine (K3.out _ (hr.ext (by repeat (first | with_reducible exact Below.refl _ _ | with_reducible assumption | with_reducible refine ExtD ?_ | with_reducible refine ExtDN ?_ | with_reducible refine ExtA ?_ | (with_reducible refine ExtR ?_ ?_; (first | omega | (dsimp only; omega) | (simp; done) | (simp; omega))) | (with_reducible refine ExtS ?_ ?_; (first | omega | (dsimp only; omega) | (simp; done) | (simp; omega))) | with_reducible refine Ext.tr ?_ (by with_reducible assumption))))).mono ?_); rintro e w3 ⟨A3, c3, rfl, hx3, ho3⟩)
      | (go_at_call 13; (with_reducible refine (KA.out _ _ _ (ho3.rd.ext (by repeat (first | with_reducible exact Below.refl _ _ | with_reducible assumption | with_reducible refine ExtD ?_ | with_reducible refine ExtDN ?_ | with_reducible refine ExtA ?_ | (with_reducible refine ExtR ?_ ?_; (first | omega | (dsimp only; omega) | (simp; done) | (simp; omega))) | (with_reducible refine ExtS ?_ ?_; (first | omega | (dsimp only; omega) | (simp; done) | (simp; omega))) | with_reducible refine Ext.tr ?_ (by with_reducible assumption))))).mono ?_); rintro e w4 ⟨A4, c4, rfl, hx4, ho4⟩; have h3 := HS.out w4 (by repeat (first | with_reducible exact Below.refl _ _ | with_reducible assumption | with_reducible refine ExtD ?_ | with_reducible refine ExtDN ?_ | with_reducible refine ExtA ?_ | (with_reducible refine ExtR ?_ ?_; (first | omega | (dsimp only; omega) | (simp; done) | (simp; omega))) | (with_reducible refine ExtS ?_ ?_; (first | omega | (dsimp only; omega) | (simp; done) | (simp; omega))) | with_reducible refine Ext.tr ?_ (by with_reducible assumption))); go_split_ands)
      | (go_at_call 16; (with_reducible refine (KV.out _ (hr.ext (by repeat (first | with_reducible exact Below.refl _ _ | with_reducible assumption | with_reducible refine ExtD ?_ | with_reducible refine ExtDN ?_ | with_reducible refine ExtA ?_ | (with_reducible refine ExtR ?_ ?_; (first | omega | (dsimp only; omega) | (simp; done) | (simp; omega))) | (with_reducible refine ExtS ?_ ?_; (first | omega | (dsimp only; omega) | (simp; done) | (simp; omega))) | with_reducible refine Ext.tr ?_ (by with_reducible assumption))))).mono ?_); rintro e w5 ⟨rfl, hx5⟩))
    go_ret
    exact ⟨rfl, (by repeat (first | with_reducible exact Below.refl _ _ | with_reducible assumption | with_reducible refine ExtD ?_ | with_reducible refine ExtDN ?_ | with_reducible refine ExtA ?_ | (with_reducible refine ExtR ?_ ?_; (first | omega | (dsimp only; omega) | (simp; done) | (simp; omega))) | (with_reducible refine ExtS ?_ ?_; (first | omega | (dsimp only; omega) | (simp; done) | (simp; omega))) | with_reducible refine Ext.tr ?_ (by with_reducible assumption)))⟩
  | true =>
    have hz : allowed s = kindsN s 10 := Hal.out
    have hp := Hpos.out rfl
    have KU2 := Lib.hid (KU.out rfl)
    have HJ2 := Lib.hid (HJ.out rfl)
    rw [hz] at KA
    have hl10 := kinds_len s 10
    clear KU HJ Hpos Hal hz
    obtain ⟨l, hl⟩ : ∃ l, l = kindsN s 10 := ⟨_, rfl⟩
    rw [← hl] at hp KA HJ2 Hat hl10
    obtain ⟨L, hL⟩ : ∃ L, L = l.length := ⟨_, rfl⟩
    rw [← hL] at hp KA Hat hl10
    have HL := Lib.hid hL
    have Hl := Lib.hid hl
    clear hL hl
    generalize kindsN s = F at *
    generalize useB s = U at *
    generalize judge s e = J at *
    generalize check5 e = C at *
    obtain ⟨order, status, prior, cur, tax, ls, paid, refunded, events, refused, stamp, who⟩ := s
    obtain ⟨ek, eo, ei, eq, ep, ec, et, ew, es, en⟩ := e
    unfold stcells evcells at *
    dsimp only at *
    generalize ls.length = n at *
    have HS := Lib.hid (fun w' (h : Ext ((w.alloc (.cells #[.int .i64 order, .int .i64 status, .int .i64 prior, .int .i64 cur, .int .i64 tax, .slice A n c, .int .i64 paid, .int .i64 refunded, .int .i64 events, .int .i64 refused, .int .i64 stamp, .string who] 25)).alloc (.cells #[.int .i64 ek, .int .i64 eo, .int .i64 ei, .int .i64 eq, .int .i64 ep, .int .i64 ec, .int .i64 et, .string ew, .int .i64 es, .string en] 28)) w') => (⟨h, (Ext.blk h (BlkA (BlkN rfl))).cell 0, (Ext.blk h (BlkA (BlkN rfl))).cell 1, (Ext.blk h (BlkA (BlkN rfl))).cell 2, (Ext.blk h (BlkA (BlkN rfl))).cell 3, (Ext.blk h (BlkA (BlkN rfl))).cell 4, (Ext.blk h (BlkA (BlkN rfl))).cell 5, (Ext.blk h (BlkA (BlkN rfl))).cell 6, (Ext.blk h (BlkA (BlkN rfl))).cell 7, (Ext.blk h (BlkA (BlkN rfl))).cell 8, (Ext.blk h (BlkA (BlkN rfl))).cell 9, (Ext.blk h (BlkA (BlkN rfl))).cell 10, (Ext.blk h (BlkA (BlkN rfl))).cell 11, (Ext.blk h (BlkN (by simp))).cell 0, (Ext.blk h (BlkN (by simp))).cell 1, (Ext.blk h (BlkN (by simp))).cell 2, (Ext.blk h (BlkN (by simp))).cell 3, (Ext.blk h (BlkN (by simp))).cell 4, (Ext.blk h (BlkN (by simp))).cell 5, (Ext.blk h (BlkN (by simp))).cell 6, (Ext.blk h (BlkN (by simp))).cell 7, (Ext.blk h (BlkN (by simp))).cell 8, (Ext.blk h (BlkN (by simp))).cell 9⟩ : (fun w' : World => Ext ((w.alloc (.cells #[.int .i64 order, .int .i64 status, .int .i64 prior, .int .i64 cur, .int .i64 tax, .slice A n c, .int .i64 paid, .int .i64 refunded, .int .i64 events, .int .i64 refused, .int .i64 stamp, .string who] 25)).alloc (.cells #[.int .i64 ek, .int .i64 eo, .int .i64 ei, .int .i64 eq, .int .i64 ep, .int .i64 ec, .int .i64 et, .string ew, .int .i64 es, .string en] 28)) w' ∧ w'.cell? ⟨w.heap.size, 0, none⟩ = some (.int .i64 order) ∧ w'.cell? ⟨w.heap.size, 1, none⟩ = some (.int .i64 status) ∧ w'.cell? ⟨w.heap.size, 2, none⟩ = some (.int .i64 prior) ∧ w'.cell? ⟨w.heap.size, 3, none⟩ = some (.int .i64 cur) ∧ w'.cell? ⟨w.heap.size, 4, none⟩ = some (.int .i64 tax) ∧ w'.cell? ⟨w.heap.size, 5, none⟩ = some (.slice A n c) ∧ w'.cell? ⟨w.heap.size, 6, none⟩ = some (.int .i64 paid) ∧ w'.cell? ⟨w.heap.size, 7, none⟩ = some (.int .i64 refunded) ∧ w'.cell? ⟨w.heap.size, 8, none⟩ = some (.int .i64 events) ∧ w'.cell? ⟨w.heap.size, 9, none⟩ = some (.int .i64 refused) ∧ w'.cell? ⟨w.heap.size, 10, none⟩ = some (.int .i64 stamp) ∧ w'.cell? ⟨w.heap.size, 11, none⟩ = some (.string who) ∧ w'.cell? ⟨w.heap.size + 1, 0, none⟩ = some (.int .i64 ek) ∧ w'.cell? ⟨w.heap.size + 1, 1, none⟩ = some (.int .i64 eo) ∧ w'.cell? ⟨w.heap.size + 1, 2, none⟩ = some (.int .i64 ei) ∧ w'.cell? ⟨w.heap.size + 1, 3, none⟩ = some (.int .i64 eq) ∧ w'.cell? ⟨w.heap.size + 1, 4, none⟩ = some (.int .i64 ep) ∧ w'.cell? ⟨w.heap.size + 1, 5, none⟩ = some (.int .i64 ec) ∧ w'.cell? ⟨w.heap.size + 1, 6, none⟩ = some (.int .i64 et) ∧ w'.cell? ⟨w.heap.size + 1, 7, none⟩ = some (.string ew) ∧ w'.cell? ⟨w.heap.size + 1, 8, none⟩ = some (.int .i64 es) ∧ w'.cell? ⟨w.heap.size + 1, 9, none⟩ = some (.string en)) w'))
    go_enter Try.func3, Try.ntmps3
    go_wp2_with (first
      | (go_at_call 14; (with_reducible refine (K0.out _).mono ?_); rintro e w1 ⟨rfl, hx1⟩)
      | (go_at_call 13; (with_reducible refine (K1.out _).mono ?_); rintro e w2 ⟨g0, c1, rfl, hx2, hc2⟩; have h3 := HS.out w2 (by repeat (first | with_reducible exact Below.refl _ _ | with_reducible assumption | with_reducible refine ExtD ?_ | with_reducible refine ExtDN ?_ | with_reducible refine ExtA ?_ | (with_reducible refine ExtR ?_ ?_; (first | omega | (dsimp only; omega) | (simp; done) | (simp; omega))) | (with_reducible refine ExtS ?_ ?_; (first | omega | (dsimp only; omega) | (simp; done) | (simp; omega))) | with_reducible refine Ext.tr ?_ (by with_reducible assumption))); go_split_ands)
      | (go_at_call 15; (with_reducible refine (K3.out _ (hr.ext (by repeat (first | with_reducible exact Below.refl _ _ | with_reducible assumption | with_reducible refine ExtD ?_ | with_reducible refine ExtDN ?_ | with_reducible refine ExtA ?_ | (with_reducible refine ExtR ?_ ?_; (first | omega | (dsimp only; omega) | (simp; done) | (simp; omega))) | (with_reducible refine ExtS ?_ ?_; (first | omega | (dsimp only; omega) | (simp; done) | (simp; omega))) | with_reducible refine Ext.tr ?_ (by with_reducible assumption))))).mono ?_); rintro e w3 ⟨A3, c3, rfl, hx3, ho3⟩)
      | (go_at_call 13; (with_reducible refine (KA.out _ _ _ (ho3.rd.ext (by repeat (first | with_reducible exact Below.refl _ _ | with_reducible assumption | with_reducible refine ExtD ?_ | with_reducible refine ExtDN ?_ | with_reducible refine ExtA ?_ | (with_reducible refine ExtR ?_ ?_; (first | omega | (dsimp only; omega) | (simp; done) | (simp; omega))) | (with_reducible refine ExtS ?_ ?_; (first | omega | (dsimp only; omega) | (simp; done) | (simp; omega))) | with_reducible refine Ext.tr ?_ (by with_reducible assumption))))).mono ?_); rintro e w4 ⟨A4, c4, rfl, hx4, ho4⟩; obtain ⟨g, rfl, hg⟩ := own_some ho4 hp; have h3 := HS.out w4 (by repeat (first | with_reducible exact Below.refl _ _ | with_reducible assumption | with_reducible refine ExtD ?_ | with_reducible refine ExtDN ?_ | with_reducible refine ExtA ?_ | (with_reducible refine ExtR ?_ ?_; (first | omega | (dsimp only; omega) | (simp; done) | (simp; omega))) | (with_reducible refine ExtS ?_ ?_; (first | omega | (dsimp only; omega) | (simp; done) | (simp; omega))) | with_reducible refine Ext.tr ?_ (by with_reducible assumption))); go_split_ands)
      | (go_at_call 16; (with_reducible refine (KV.out _ (hr.ext (by repeat (first | with_reducible exact Below.refl _ _ | with_reducible assumption | with_reducible refine ExtD ?_ | with_reducible refine ExtDN ?_ | with_reducible refine ExtA ?_ | (with_reducible refine ExtR ?_ ?_; (first | omega | (dsimp only; omega) | (simp; done) | (simp; omega))) | (with_reducible refine ExtS ?_ ?_; (first | omega | (dsimp only; omega) | (simp; done) | (simp; omega))) | with_reducible refine Ext.tr ?_ (by with_reducible assumption))))).mono ?_); rintro e w5 ⟨rfl, hx5⟩))
    have hX3 : Ext ((w.alloc (.cells #[.int .i64 order, .int .i64 status, .int .i64 prior, .int .i64 cur, .int .i64 tax, .slice A n c, .int .i64 paid, .int .i64 refunded, .int .i64 events, .int .i64 refused, .int .i64 stamp, .string who] 25)).alloc (.cells #[.int .i64 ek, .int .i64 eo, .int .i64 ei, .int .i64 eq, .int .i64 ep, .int .i64 ec, .int .i64 et, .string ew, .int .i64 es, .string en] 28)) w3 := (by repeat (first | with_reducible exact Below.refl _ _ | with_reducible assumption | with_reducible refine ExtD ?_ | with_reducible refine ExtDN ?_ | with_reducible refine ExtA ?_ | (with_reducible refine ExtR ?_ ?_; (first | omega | (dsimp only; omega) | (simp; done) | (simp; omega))) | (with_reducible refine ExtS ?_ ?_; (first | omega | (dsimp only; omega) | (simp; done) | (simp; omega))) | with_reducible refine Ext.tr ?_ (by with_reducible assumption)))
    have hX35 : Ext w3 w5 := (by repeat (first | with_reducible exact Below.refl _ _ | with_reducible assumption | with_reducible refine ExtD ?_ | with_reducible refine ExtDN ?_ | with_reducible refine ExtA ?_ | (with_reducible refine ExtR ?_ ?_; (first | omega | (dsimp only; omega) | (simp; done) | (simp; omega))) | (with_reducible refine ExtS ?_ ?_; (first | omega | (dsimp only; omega) | (simp; done) | (simp; omega))) | with_reducible refine Ext.tr ?_ (by with_reducible assumption)))
    have ho5 := Lib.hid (own_ext hx5 ho4)
    clear hx1 hx2 hx3 hx4 hx5 ho3 ho4 hc2
    go_loopw [7, 8] (fun c7 c8 wr => LpA w5 F c7 c8 wr) (fun _ c8 _ => 11 - (intOf c8).toNat)
    case atStart => exact ⟨1, by omega, by omega, rfl, by rw [show 1 - 1 = 0 from rfl, HF0.out]; rfl, Ext.rfl' _⟩
    case round =>
      obtain ⟨k, hk1, hk, rfl, rfl, hx⟩ := hrel
      have h3 := HS.out wr (by repeat (first | with_reducible exact Below.refl _ _ | with_reducible assumption | with_reducible refine ExtD ?_ | with_reducible refine ExtDN ?_ | with_reducible refine ExtA ?_ | (with_reducible refine ExtR ?_ ?_; (first | omega | (dsimp only; omega) | (simp; done) | (simp; omega))) | (with_reducible refine ExtS ?_ ?_; (first | omega | (dsimp only; omega) | (simp; done) | (simp; omega))) | with_reducible refine Ext.tr ?_ (by with_reducible assumption)))
      go_split_ands
      by_cases hlt : k < 11
      · have ht : (k : Int) ≤ 10 := by omega
        cases hU : U (k : Int) with
        | true =>
          obtain ⟨hm, hcell, hnx⟩ := Hat.out k hk1 (by omega) hU
          have KUk := KU2.out (k : Int)
          rw [hU] at KUk
          have K5 := Lib.hid KUk
          have hcw : wr.cell? ⟨g, (F (k - 1)).length, none⟩ = some (.int .i64 (k : Int)) := Ext.cell hx (by rw [World.ownsRow.cellAt ho5.out _ (by omega)]; simp [ints, hcell])
          have Hnx := Lib.hid hnx
          clear KUk hnx hcell hU
          generalize (F (k - 1)).length = m at *
          have hmL : (m : Int) < (L : Int) := by omega
          go_wp2_with (go_at_call 17; (with_reducible refine (K5.out _ (hr.ext (by repeat (first | with_reducible exact Below.refl _ _ | with_reducible assumption | with_reducible refine ExtD ?_ | with_reducible refine ExtDN ?_ | with_reducible refine ExtA ?_ | (with_reducible refine ExtR ?_ ?_; (first | omega | (dsimp only; omega) | (simp; done) | (simp; omega))) | (with_reducible refine ExtS ?_ ?_; (first | omega | (dsimp only; omega) | (simp; done) | (simp; omega))) | with_reducible refine Ext.tr ?_ (by with_reducible assumption))))).mono ?_); rintro e w6 ⟨rfl, hx6⟩; have hcw6 := Ext.cell hx6 hcw)
          refine And.intro ?_ ?_
          · exact ⟨k + 1, by omega, by omega, by go_num, by rw [show k + 1 - 1 = k from rfl, Hnx.out]; go_num, (by repeat (first | with_reducible exact Below.refl _ _ | with_reducible assumption | with_reducible refine ExtD ?_ | with_reducible refine ExtDN ?_ | with_reducible refine ExtA ?_ | (with_reducible refine ExtR ?_ ?_; (first | omega | (dsimp only; omega) | (simp; done) | (simp; omega))) | (with_reducible refine ExtS ?_ ?_; (first | omega | (dsimp only; omega) | (simp; done) | (simp; omega))) | with_reducible refine Ext.tr ?_ (by with_reducible assumption)))⟩
          · simp [intOf]; omega
        | false =>
          have KUk := KU2.out (k : Int)
          rw [hU] at KUk
          have K5 := Lib.hid KUk
          have Hnx := Lib.hid (Han.out k hk1 hU)
          clear KUk hU
          generalize (F (k - 1)).length = m at *
          go_wp2_with (go_at_call 17; (with_reducible refine (K5.out _ (hr.ext (by repeat (first | with_reducible exact Below.refl _ _ | with_reducible assumption | with_reducible refine ExtD ?_ | with_reducible refine ExtDN ?_ | with_reducible refine ExtA ?_ | (with_reducible refine ExtR ?_ ?_; (first | omega | (dsimp only; omega) | (simp; done) | (simp; omega))) | (with_reducible refine ExtS ?_ ?_; (first | omega | (dsimp only; omega) | (simp; done) | (simp; omega))) | with_reducible refine Ext.tr ?_ (by with_reducible assumption))))).mono ?_); rintro e w6 ⟨rfl, hx6⟩)
          refine And.intro ?_ ?_
          · exact ⟨k + 1, by omega, by omega, by go_num, by rw [show k + 1 - 1 = k from rfl, Hnx.out], (by repeat (first | with_reducible exact Below.refl _ _ | with_reducible assumption | with_reducible refine ExtD ?_ | with_reducible refine ExtDN ?_ | with_reducible refine ExtA ?_ | (with_reducible refine ExtR ?_ ?_; (first | omega | (dsimp only; omega) | (simp; done) | (simp; omega))) | (with_reducible refine ExtS ?_ ?_; (first | omega | (dsimp only; omega) | (simp; done) | (simp; omega))) | with_reducible refine Ext.tr ?_ (by with_reducible assumption)))⟩
          · simp [intOf]; omega
      · obtain rfl : k = 11 := by omega
        have hF10 : (F (11 - 1)).length = L := by rw [HL.out, Hl.out]
        rw [hF10]
        have hob := own_ext hx ho5.out
        have hX : Ext w3 wr := Ext.tr hX35 hx
        clear hF10 hx
        go_wp2_with fail
        go_loopw [61] (fun c61 wr2 => LpB w3 w3.heap.size g L c4 c61 wr2) (fun c61 _ => L - (intOf c61).toNat)
        case atStart => exact ⟨0, _, by omega, rfl, hX, hob⟩
        case round =>
          obtain ⟨k, xs, hk2, rfl, hxb, hob2⟩ := hrel
          by_cases hlt2 : k < L
          · have hkL : (k : Int) < (L : Int) := by omega
            have hlx : k < xs.length := by have := hob2.1; omega
            have hcx : World.cell? wr ⟨g, k, none⟩ = some xs[k] := by rw [World.ownsRow.cellAt hob2 _ (by omega), List.getElem?_eq_getElem hlx]
            have hfx : World.frozen? wr ⟨g, k, none⟩ = false := World.ownsRow.frozenAt hob2 k
            have Hob := Lib.hid hob2
            clear hob2
            go_wp2_with fail
            refine And.intro ?_ ?_
            · exact ⟨k + 1, _, by omega, by go_num, ExtS hg hxb, (World.ownsRow.stored Hob.out k _).1⟩
            · simp [intOf]; omega
          · obtain rfl : k = L := by omega
            have h3 := HS.out wr (by repeat (first | with_reducible exact Below.refl _ _ | with_reducible assumption | with_reducible refine ExtD ?_ | with_reducible refine ExtDN ?_ | with_reducible refine ExtA ?_ | (with_reducible refine ExtR ?_ ?_; (first | omega | (dsimp only; omega) | (simp; done) | (simp; omega))) | (with_reducible refine ExtS ?_ ?_; (first | omega | (dsimp only; omega) | (simp; done) | (simp; omega))) | with_reducible refine Ext.tr ?_ (by with_reducible assumption)))
            go_split_ands
            clear hob2
            go_wp2_with (first
              | (go_at_call 15; (with_reducible refine (K3.out _ (hr.ext (by repeat (first | with_reducible exact Below.refl _ _ | with_reducible assumption | with_reducible refine ExtD ?_ | with_reducible refine ExtDN ?_ | with_reducible refine ExtA ?_ | (with_reducible refine ExtR ?_ ?_; (first | omega | (dsimp only; omega) | (simp; done) | (simp; omega))) | (with_reducible refine ExtS ?_ ?_; (first | omega | (dsimp only; omega) | (simp; done) | (simp; omega))) | with_reducible refine Ext.tr ?_ (by with_reducible assumption))))).mono ?_); rintro e w7 ⟨A7, c7, rfl, hx7, ho7⟩)
              | (go_at_call 13; (with_reducible refine (KA.out _ _ _ (ho7.rd.ext (by repeat (first | with_reducible exact Below.refl _ _ | with_reducible assumption | with_reducible refine ExtD ?_ | with_reducible refine ExtDN ?_ | with_reducible refine ExtA ?_ | (with_reducible refine ExtR ?_ ?_; (first | omega | (dsimp only; omega) | (simp; done) | (simp; omega))) | (with_reducible refine ExtS ?_ ?_; (first | omega | (dsimp only; omega) | (simp; done) | (simp; omega))) | with_reducible refine Ext.tr ?_ (by with_reducible assumption))))).mono ?_); rintro e w8 ⟨A8, c8, rfl, hx8, ho8⟩; obtain ⟨g8, rfl, hg8⟩ := own_some ho8 hp))
            have hX8 : Ext ((w.alloc (.cells #[.int .i64 order, .int .i64 status, .int .i64 prior, .int .i64 cur, .int .i64 tax, .slice A n c, .int .i64 paid, .int .i64 refunded, .int .i64 events, .int .i64 refused, .int .i64 stamp, .string who] 25)).alloc (.cells #[.int .i64 ek, .int .i64 eo, .int .i64 ei, .int .i64 eq, .int .i64 ep, .int .i64 ec, .int .i64 et, .string ew, .int .i64 es, .string en] 28)) w8 := (by repeat (first | with_reducible exact Below.refl _ _ | with_reducible assumption | with_reducible refine ExtD ?_ | with_reducible refine ExtDN ?_ | with_reducible refine ExtA ?_ | (with_reducible refine ExtR ?_ ?_; (first | omega | (dsimp only; omega) | (simp; done) | (simp; omega))) | (with_reducible refine ExtS ?_ ?_; (first | omega | (dsimp only; omega) | (simp; done) | (simp; omega))) | with_reducible refine Ext.tr ?_ (by with_reducible assumption)))
            have Ho8 := Lib.hid ho8
            clear ho8 ho7 hx7 hx8
            go_loopw [10, 72] (fun c10 c72 wr2 => LpC w8 l ek c10 c72 wr2) (fun _ c72 _ => k - (intOf c72).toNat)
            case atStart => exact ⟨0, by omega, rfl, rfl, Ext.rfl' _⟩
            case round =>
              obtain ⟨j, hj, rfl, rfl, hxc⟩ := hrel
              rw [← HL.out] at hj
              have h3 := HS.out wr (by repeat (first | with_reducible exact Below.refl _ _ | with_reducible assumption | with_reducible refine ExtD ?_ | with_reducible refine ExtDN ?_ | with_reducible refine ExtA ?_ | (with_reducible refine ExtR ?_ ?_; (first | omega | (dsimp only; omega) | (simp; done) | (simp; omega))) | (with_reducible refine ExtS ?_ ?_; (first | omega | (dsimp only; omega) | (simp; done) | (simp; omega))) | with_reducible refine Ext.tr ?_ (by with_reducible assumption)))
              go_split_ands
              by_cases hlt3 : j < k
              · have hjk : (j : Int) < (k : Int) := by omega
                have hjl : j < l.length := by rw [← HL.out]; exact hlt3
                have hcj : World.cell? wr ⟨g8, j, none⟩ = some (.int .i64 l[j]) := Ext.cell hxc (by rw [World.ownsRow.cellAt Ho8.out _ (by omega)]; simp [ints, List.getElem?_eq_getElem hjl])
                have Hany := Lib.hid (any_take (x := ek) hjl)
                generalize l[j] = y at *
                generalize hbb : (l.take j).any (fun y => y == ek) = b at *
                generalize hqq : (y == ek) = q at *
                cases b <;> cases q <;>
                · go_wp2_with fail
                  refine And.intro ?_ ?_
                  · exact ⟨j + 1, by rw [← HL.out]; omega, by go_num, by rw [Hany.out]; rfl, (by repeat (first | with_reducible exact Below.refl _ _ | with_reducible assumption | with_reducible refine ExtD ?_ | with_reducible refine ExtDN ?_ | with_reducible refine ExtA ?_ | (with_reducible refine ExtR ?_ ?_; (first | omega | (dsimp only; omega) | (simp; done) | (simp; omega))) | (with_reducible refine ExtS ?_ ?_; (first | omega | (dsimp only; omega) | (simp; done) | (simp; omega))) | with_reducible refine Ext.tr ?_ (by with_reducible assumption)))⟩
                  · simp [intOf]; omega
              · obtain rfl : j = k := by omega
                have htk : l.take j = l := List.take_of_length_le (by rw [← HL.out]; exact Nat.le_refl _)
                rw [htk]
                have hX9 : Ext ((w.alloc (.cells #[.int .i64 order, .int .i64 status, .int .i64 prior, .int .i64 cur, .int .i64 tax, .slice A n c, .int .i64 paid, .int .i64 refunded, .int .i64 events, .int .i64 refused, .int .i64 stamp, .string who] 25)).alloc (.cells #[.int .i64 ek, .int .i64 eo, .int .i64 ei, .int .i64 eq, .int .i64 ep, .int .i64 ec, .int .i64 et, .string ew, .int .i64 es, .string en] 28)) wr := Ext.tr hX8 hxc
                clear htk
                generalize l.any (fun y => y == ek) = I at *
                have HJ3 := Lib.hid HJ2.out
                go_wp2_with fail
                go_region_held3 (fun w' : World => Ext ((w.alloc (.cells #[.int .i64 order, .int .i64 status, .int .i64 prior, .int .i64 cur, .int .i64 tax, .slice A n c, .int .i64 paid, .int .i64 refunded, .int .i64 events, .int .i64 refused, .int .i64 stamp, .string who] 25)).alloc (.cells #[.int .i64 ek, .int .i64 eo, .int .i64 ei, .int .i64 eq, .int .i64 ep, .int .i64 ec, .int .i64 et, .string ew, .int .i64 es, .string en] 28)) w' ∧ w'.cell? ⟨w.heap.size, 0, none⟩ = some (.int .i64 order) ∧ w'.cell? ⟨w.heap.size, 1, none⟩ = some (.int .i64 status) ∧ w'.cell? ⟨w.heap.size, 2, none⟩ = some (.int .i64 prior) ∧ w'.cell? ⟨w.heap.size, 3, none⟩ = some (.int .i64 cur) ∧ w'.cell? ⟨w.heap.size, 4, none⟩ = some (.int .i64 tax) ∧ w'.cell? ⟨w.heap.size, 5, none⟩ = some (.slice A n c) ∧ w'.cell? ⟨w.heap.size, 6, none⟩ = some (.int .i64 paid) ∧ w'.cell? ⟨w.heap.size, 7, none⟩ = some (.int .i64 refunded) ∧ w'.cell? ⟨w.heap.size, 8, none⟩ = some (.int .i64 events) ∧ w'.cell? ⟨w.heap.size, 9, none⟩ = some (.int .i64 refused) ∧ w'.cell? ⟨w.heap.size, 10, none⟩ = some (.int .i64 stamp) ∧ w'.cell? ⟨w.heap.size, 11, none⟩ = some (.string who) ∧ w'.cell? ⟨w.heap.size + 1, 0, none⟩ = some (.int .i64 ek) ∧ w'.cell? ⟨w.heap.size + 1, 1, none⟩ = some (.int .i64 eo) ∧ w'.cell? ⟨w.heap.size + 1, 2, none⟩ = some (.int .i64 ei) ∧ w'.cell? ⟨w.heap.size + 1, 3, none⟩ = some (.int .i64 eq) ∧ w'.cell? ⟨w.heap.size + 1, 4, none⟩ = some (.int .i64 ep) ∧ w'.cell? ⟨w.heap.size + 1, 5, none⟩ = some (.int .i64 ec) ∧ w'.cell? ⟨w.heap.size + 1, 6, none⟩ = some (.int .i64 et) ∧ w'.cell? ⟨w.heap.size + 1, 7, none⟩ = some (.string ew) ∧ w'.cell? ⟨w.heap.size + 1, 8, none⟩ = some (.int .i64 es) ∧ w'.cell? ⟨w.heap.size + 1, 9, none⟩ = some (.string en)) (exact HS.out _ (by repeat (first | with_reducible exact Below.refl _ _ | with_reducible assumption | with_reducible refine ExtD ?_ | with_reducible refine ExtDN ?_ | with_reducible refine ExtA ?_ | (with_reducible refine ExtR ?_ ?_; (first | omega | (dsimp only; omega) | (simp; done) | (simp; omega))) | (with_reducible refine ExtS ?_ ?_; (first | omega | (dsimp only; omega) | (simp; done) | (simp; omega))) | with_reducible refine Ext.tr ?_ (by with_reducible assumption)))) (first
                  | (go_at_call 15; (with_reducible refine (K3.out _ (hr.ext (by repeat (first | with_reducible exact Below.refl _ _ | with_reducible assumption | with_reducible refine ExtD ?_ | with_reducible refine ExtDN ?_ | with_reducible refine ExtA ?_ | (with_reducible refine ExtR ?_ ?_; (first | omega | (dsimp only; omega) | (simp; done) | (simp; omega))) | (with_reducible refine ExtS ?_ ?_; (first | omega | (dsimp only; omega) | (simp; done) | (simp; omega))) | with_reducible refine Ext.tr ?_ (by with_reducible assumption))))).mono ?_); rintro e w9 ⟨A9, c9, rfl, hx9, ho9⟩)
                  | (go_at_call 18; (with_reducible refine (KJ.out _ _ _ (ho9.rd.ext (by repeat (first | with_reducible exact Below.refl _ _ | with_reducible assumption | with_reducible refine ExtD ?_ | with_reducible refine ExtDN ?_ | with_reducible refine ExtA ?_ | (with_reducible refine ExtR ?_ ?_; (first | omega | (dsimp only; omega) | (simp; done) | (simp; omega))) | (with_reducible refine ExtS ?_ ?_; (first | omega | (dsimp only; omega) | (simp; done) | (simp; omega))) | with_reducible refine Ext.tr ?_ (by with_reducible assumption))))).mono ?_); rintro e w10 ⟨rfl, hx10⟩))
                have hY : Ext w wr := Ext.tr (ExtA (ExtA (Ext.rfl' w))) hX9
                rcases HJ3.out with ⟨hj1, hc | hc⟩ | ⟨hj2, hc, hm, ho⟩ | ⟨hj1, hj2, ⟨hI, hj3, hj4, hj5⟩ | ⟨hI, hj⟩⟩
                · have j1 : ((J : Int) == 1) = true := by simp; omega
                  clear hj1
                  go_wp2_with (go_at_call 19; (with_reducible refine (KC.out _).mono ?_); rintro e w11 ⟨r, rfl, hr0, hx11⟩; have r1 : (r != 0) = true := (by simp; exact fun h => hc (hr0.1 h)))
                  go_ret
                  exact ⟨rfl, (by repeat (first | with_reducible exact Below.refl _ _ | with_reducible assumption | with_reducible refine ExtD ?_ | with_reducible refine ExtDN ?_ | with_reducible refine ExtA ?_ | (with_reducible refine ExtR ?_ ?_; (first | omega | (dsimp only; omega) | (simp; done) | (simp; omega))) | (with_reducible refine ExtS ?_ ?_; (first | omega | (dsimp only; omega) | (simp; done) | (simp; omega))) | with_reducible refine Ext.tr ?_ (by with_reducible assumption)))⟩
                · have j1 : ((J : Int) == 1) = true := by simp; omega
                  have v1 : (events == 1099511627776) = true := by simp; exact hc
                  clear hj1 hc
                  go_wp2_with (go_at_call 19; (with_reducible refine (KC.out _).mono ?_); rintro e w11 ⟨r, rfl, hr0, hx11⟩; have h3 := HS.out w11 (by repeat (first | with_reducible exact Below.refl _ _ | with_reducible assumption | with_reducible refine ExtD ?_ | with_reducible refine ExtDN ?_ | with_reducible refine ExtA ?_ | (with_reducible refine ExtR ?_ ?_; (first | omega | (dsimp only; omega) | (simp; done) | (simp; omega))) | (with_reducible refine ExtS ?_ ?_; (first | omega | (dsimp only; omega) | (simp; done) | (simp; omega))) | with_reducible refine Ext.tr ?_ (by with_reducible assumption))); go_split_ands)
                  all_goals
                    go_ret
                    exact ⟨rfl, (by repeat (first | with_reducible exact Below.refl _ _ | with_reducible assumption | with_reducible refine ExtD ?_ | with_reducible refine ExtDN ?_ | with_reducible refine ExtA ?_ | (with_reducible refine ExtR ?_ ?_; (first | omega | (dsimp only; omega) | (simp; done) | (simp; omega))) | (with_reducible refine ExtS ?_ ?_; (first | omega | (dsimp only; omega) | (simp; done) | (simp; omega))) | with_reducible refine Ext.tr ?_ (by with_reducible assumption)))⟩
                · have j1 : ((J : Int) == 1) = false := by simp; omega
                  have j2 : ((J : Int) == 2) = true := by simp; omega
                  have v1 : (events == 1099511627776) = false := by simp; exact hm
                  have o1 : (eo != order) = true := by simp; exact ho
                  clear hj2 hm ho
                  go_wp2_with (go_at_call 19; (with_reducible refine (KC.out _).mono ?_); rintro e w11 ⟨r, rfl, hr0, hx11⟩; have r1 : (r != 0) = false := (by simp; exact hr0.2 hc); have h3 := HS.out w11 (by repeat (first | with_reducible exact Below.refl _ _ | with_reducible assumption | with_reducible refine ExtD ?_ | with_reducible refine ExtDN ?_ | with_reducible refine ExtA ?_ | (with_reducible refine ExtR ?_ ?_; (first | omega | (dsimp only; omega) | (simp; done) | (simp; omega))) | (with_reducible refine ExtS ?_ ?_; (first | omega | (dsimp only; omega) | (simp; done) | (simp; omega))) | with_reducible refine Ext.tr ?_ (by with_reducible assumption))); go_split_ands)
                  go_ret
                  exact ⟨rfl, (by repeat (first | with_reducible exact Below.refl _ _ | with_reducible assumption | with_reducible refine ExtD ?_ | with_reducible refine ExtDN ?_ | with_reducible refine ExtA ?_ | (with_reducible refine ExtR ?_ ?_; (first | omega | (dsimp only; omega) | (simp; done) | (simp; omega))) | (with_reducible refine ExtS ?_ ?_; (first | omega | (dsimp only; omega) | (simp; done) | (simp; omega))) | with_reducible refine Ext.tr ?_ (by with_reducible assumption)))⟩
                · have j1 : ((J : Int) == 1) = false := by simp; omega
                  have j2 : ((J : Int) == 2) = false := by simp; omega
                  have j3 : ((J : Int) != 3) = true := by simp; omega
                  have j4 : ((J : Int) != 4) = true := by simp; omega
                  have j5 : ((J : Int) != 5) = true := by simp; omega
                  subst hI
                  clear hj1 hj2 hj3 hj4 hj5
                  go_wp2_with fail
                  go_ret
                  exact ⟨rfl, (by repeat (first | with_reducible exact Below.refl _ _ | with_reducible assumption | with_reducible refine ExtD ?_ | with_reducible refine ExtDN ?_ | with_reducible refine ExtA ?_ | (with_reducible refine ExtR ?_ ?_; (first | omega | (dsimp only; omega) | (simp; done) | (simp; omega))) | (with_reducible refine ExtS ?_ ?_; (first | omega | (dsimp only; omega) | (simp; done) | (simp; omega))) | with_reducible refine Ext.tr ?_ (by with_reducible assumption)))⟩
                · have j1 : ((J : Int) == 1) = false := by simp; omega
                  have j2 : ((J : Int) == 2) = false := by simp; omega
                  subst hI
                  by_cases h3 : J = 3
                  · have j3 : ((J : Int) != 3) = false := by simp; omega
                    clear hj1 hj2 hj h3
                    go_wp2_with fail
                    go_ret
                    exact ⟨rfl, (by repeat (first | with_reducible exact Below.refl _ _ | with_reducible assumption | with_reducible refine ExtD ?_ | with_reducible refine ExtDN ?_ | with_reducible refine ExtA ?_ | (with_reducible refine ExtR ?_ ?_; (first | omega | (dsimp only; omega) | (simp; done) | (simp; omega))) | (with_reducible refine ExtS ?_ ?_; (first | omega | (dsimp only; omega) | (simp; done) | (simp; omega))) | with_reducible refine Ext.tr ?_ (by with_reducible assumption)))⟩
                  · have j3 : ((J : Int) != 3) = true := by simp; omega
                    by_cases h4 : J = 4
                    · have j4 : ((J : Int) != 4) = false := by simp; omega
                      clear hj1 hj2 hj h3 h4
                      go_wp2_with fail
                      go_ret
                      exact ⟨rfl, (by repeat (first | with_reducible exact Below.refl _ _ | with_reducible assumption | with_reducible refine ExtD ?_ | with_reducible refine ExtDN ?_ | with_reducible refine ExtA ?_ | (with_reducible refine ExtR ?_ ?_; (first | omega | (dsimp only; omega) | (simp; done) | (simp; omega))) | (with_reducible refine ExtS ?_ ?_; (first | omega | (dsimp only; omega) | (simp; done) | (simp; omega))) | with_reducible refine Ext.tr ?_ (by with_reducible assumption)))⟩
                    · have j4 : ((J : Int) != 4) = true := by simp; omega
                      have j5 : ((J : Int) != 5) = false := by simp; omega
                      clear hj1 hj2 hj h3 h4
                      go_wp2_with fail
                      go_ret
                      exact ⟨rfl, (by repeat (first | with_reducible exact Below.refl _ _ | with_reducible assumption | with_reducible refine ExtD ?_ | with_reducible refine ExtDN ?_ | with_reducible refine ExtA ?_ | (with_reducible refine ExtR ?_ ?_; (first | omega | (dsimp only; omega) | (simp; done) | (simp; omega))) | (with_reducible refine ExtS ?_ ?_; (first | omega | (dsimp only; omega) | (simp; done) | (simp; omega))) | with_reducible refine Ext.tr ?_ (by with_reducible assumption)))⟩
end Go.Proofs.Ytlpjhnecihhkfaa
