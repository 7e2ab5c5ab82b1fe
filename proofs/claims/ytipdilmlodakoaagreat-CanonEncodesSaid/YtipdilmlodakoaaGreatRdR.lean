/-
  A reader by what it holds: the tags that were asked for stand from one on; its calls over one relation.
-/
import Derived.Test.YtipdilmlodakoaaGreatRdW
import Derived.Test.YtipdilmlodakoaaGreatCanP
import Derived.Laws.BytesArg
import Derived.Laws.IdiomStrings
namespace Go.Proofs.YtipdilmlodakoaaGreat
open Go.RowKit
set_option linter.unusedVariables false
set_option linter.unusedSimpArgs false
theorem own_ncap {w : World} {base n c : Nat} {e : TypeId} {s : Nat} {A : Option Addr} {xs : List Value} (h : w.ownsRow base e s (.slice A n c) n xs) : n ≤ c := by
  rcases h.2 with ⟨hv, h0⟩ | ⟨g, cap, cur, hv, _, _, hnc, _⟩
  · omega
  · injection hv with h1 h2 h3
    omega
theorem str_of {w : World} {A : Option Addr} {n : Nat} {l : List UInt8} (c : Nat) (hr : Rd w A n (u8s l)) : (convert 28 9 (.slice A n c)).run Tryz.prog w = .ok (.string ⟨l.toArray⟩) w := by
  have hl : l.length = n := by have := hr.1; rw [u8s_len] at this; exact this
  rcases Nat.eq_zero_or_pos n with h0 | h0
  · subst h0
    have : l = [] := List.eq_nil_of_length_eq_zero hl
    subst this
    cases A with
    | none => exact run_convert_bytes_nil _ 28 5 Tryz.underlying28 Tryz.underlying5 0 c _ Tryz.underlying9
    | some a =>
      have := run_convert_bytes_back (P := Tryz.prog) w 28 9 5 a c [] Tryz.underlying28 Tryz.underlying5 Tryz.underlying9 (fun j hj => absurd hj (by simp))
      exact this
  · obtain ⟨b, o, rfl, hc⟩ := hr.2 h0
    have := run_convert_bytes_back (P := Tryz.prog) w 28 9 5 ⟨b, o, none⟩ c l Tryz.underlying28 Tryz.underlying5 Tryz.underlying9 (fun j hj => by
      rw [addr_add2]
      refine hc j _ ?_
      unfold u8s
      rw [List.getElem?_map, List.getElem?_eq_getElem hj]
      rfl)
    rw [hl] at this
    exact this
def wrongB (fs : List Fld) (K : Int) : Nat := if fs.any (fun f => decide (f.tag ≤ K) && wrongF f) = true then 33 else 0
/-- The reader at g (its map at b) of the fields fs, the tags up to K taken out. -/
def RS (W0 w : World) (g b : Nat) (fs : List Fld) (K : Int) : Prop :=
  ∃ (hs : List Held) (D : DataW Value), hs.map (·.1) = fs ∧ RdX w W0.heap.size g b (hs.filter fun h => decide (K < h.1.tag)) (wrongB fs K) D ∧ Ext W0 w
theorem RS.x {W0 w : World} {g b : Nat} {fs : List Fld} {K : Int} (h : RS W0 w g b fs K) : Ext W0 w := by obtain ⟨_, _, _, _, h⟩ := h; exact h
theorem RS.up {W0 w w' : World} {g b : Nat} {fs : List Fld} {K : Int} (h : RS W0 w g b fs K) (hx : Ext w w') : RS W0 w' g b fs K := by
  obtain ⟨hs, D, h1, h2, h3⟩ := h
  exact ⟨hs, D, h1, h2.ext hx, h3.tr hx⟩
theorem RS.mk0 {w w' : World} {g b : Nat} {hs : List Held} {D : DataW Value} {fs : List Fld} (hx : Ext w w') (hm : hs.map (·.1) = fs) (h : RdX w' w.heap.size g b hs 0 D) (ht : ∀ f ∈ fs, 0 < f.tag) : RS w w' g b fs 0 := by
  refine ⟨hs, D, hm, ?_, hx⟩
  have e1 : hs.filter (fun h => decide (0 < h.1.tag)) = hs := List.filter_eq_self.2 fun x hx => by
    have := ht x.1 (by rw [← hm]; exact List.mem_map.2 ⟨x, hx, rfl⟩)
    simpa using this
  have e2 : wrongB fs 0 = 0 := by
    unfold wrongB
    rw [if_neg]
    simp only [List.any_eq_true, and_t, decide_eq_true_eq, not_exists, not_and]
    intro f hf h0
    have := ht f hf
    omega
  rw [e1, e2]
  exact h
theorem find_h (hs : List Held) (t : Int) : (findH hs t).map (·.1) = findF (hs.map (·.1)) t := by
  unfold findH findF
  rw [List.find?_map]
  rfl
theorem find_filter_gt (hs : List Held) {K t : Int} (h : K < t) : findH (hs.filter fun h => decide (K < h.1.tag)) t = findH hs t := by
  unfold findH
  rw [List.find?_filter]
  congr 1
  funext x
  by_cases hx : x.1.tag = t
  · simp [hx, h]
  · simp [hx]
theorem strike_filter (hs : List Held) (K : Int) : strike (K + 1) (hs.filter fun h => decide (K < h.1.tag)) = hs.filter fun h => decide (K + 1 < h.1.tag) := by
  unfold strike
  rw [List.filter_filter]
  congr 1
  funext x
  rw [Bool.eq_iff_iff]
  simp
  omega
theorem wrong_step {fs : List Fld} {b : Int} (hr : rising b fs) (K : Int) : wrongB fs (K + 1) = match findF fs (K + 1) with
    | some f => if f.text = decide (11 ≤ K + 1) then wrongB fs K else 33
    | none => wrongB fs K := by
  have key : (fs.any (fun f => decide (f.tag ≤ K + 1) && wrongF f)) = ((fs.any (fun f => decide (f.tag ≤ K) && wrongF f)) || (match findF fs (K + 1) with
      | some f => wrongF f
      | none => false)) := by
    rw [Bool.eq_iff_iff]
    simp only [List.any_eq_true, Bool.or_eq_true, and_t, decide_eq_true_eq]
    constructor
    · rintro ⟨f, hf, h1, h2⟩
      by_cases hk : f.tag ≤ K
      · exact .inl ⟨f, hf, hk, h2⟩
      · right
        have h3 := find_mem hr hf
        rw [show f.tag = K + 1 by omega] at h3
        rw [h3]
        exact h2
    · rintro (⟨f, hf, h1, h2⟩ | h)
      · exact ⟨f, hf, by omega, h2⟩
      · split at h
        · rename_i f hf
          obtain ⟨h3, h4⟩ := find_tag hf
          exact ⟨f, h3, by omega, h⟩
        · cases h
  unfold wrongB
  rw [key]
  cases hf : findF fs (K + 1) with
  | none => simp
  | some f =>
    obtain ⟨h3, h4⟩ := find_tag hf
    have hw : wrongF f = (f.text != decide (11 ≤ K + 1)) := by unfold wrongF; rw [h4]
    dsimp only
    generalize (fs.any fun f => decide (f.tag ≤ K) && wrongF f) = B
    generalize decide (11 ≤ K + 1) = T at *
    by_cases ht : f.text = T
    · have hv : wrongF f = false := by rw [hw, ht]; simp
      simp [hv, ht]
    · have hv : wrongF f = true := by rw [hw]; simpa using ht
      simp [hv, ht]
theorem take_num {hs : List Held} {fs : List Fld} (hm : hs.map (·.1) = fs) {K : Int} : (takeH (hs.filter fun h => decide (K < h.1.tag)) (K + 1) false).1.num = cnumAt fs (K + 1) := by
  unfold takeH cnumAt
  rw [find_filter_gt hs (by omega), ← hm, ← find_h]
  cases findH hs (K + 1) with
  | none => rfl
  | some x =>
    dsimp only [Option.map_some]
    by_cases h : x.1.text = false
    · rw [if_pos h, if_pos h]
    · rw [if_neg h, if_neg h]; rfl
theorem take_text {hs : List Held} {fs : List Fld} (hm : hs.map (·.1) = fs) {K : Int} : (takeH (hs.filter fun h => decide (K < h.1.tag)) (K + 1) true).1.bytes = textAt fs (K + 1) := by
  unfold takeH textAt
  rw [find_filter_gt hs (by omega), ← hm, ← find_h]
  cases findH hs (K + 1) with
  | none => rfl
  | some x =>
    dsimp only [Option.map_some]
    by_cases h : x.1.text = true
    · rw [if_pos h, if_pos h]
    · rw [if_neg h, if_neg h]; rfl
theorem take_bad {hs : List Held} {fs : List Fld} (hm : hs.map (·.1) = fs) {b : Int} (hr : rising b fs) {K : Int} (tx : Bool) (ht : tx = decide (11 ≤ K + 1)) : takeB (hs.filter fun h => decide (K < h.1.tag)) (K + 1) tx (wrongB fs K) = wrongB fs (K + 1) := by
  rw [wrong_step hr, ht]
  unfold takeB
  rw [find_filter_gt hs (by omega), ← hm, ← find_h]
  cases findH hs (K + 1) with
  | none => rfl
  | some x => rfl
def IsK (K : Int) : Prop := 0 ≤ K ∧ K ≤ 1000
theorem IsK.i {K : Int} (h : IsK K) : IsI (K + 1) := by unfold IsK at h; unfold IsI; omega
theorem rs_num {W0 w : World} {g b : Nat} {fs : List Fld} {K t : Int} (h : RS W0 w g b fs K) (hr : rising 0 fs) (hk : IsK K) (h11 : K < 10) (ht : t = K + 1) :
    Calls Tryz.prog 24 #[.pointer (some ⟨g, 0, none⟩), .int .i64 t] w fun e w' => e = .returned (.int .u64 (cnumAt fs t : Nat)) ∧ Turn [g, b] w w' ∧ RS W0 w' g b fs t := by
  subst ht
  obtain ⟨hs, D, h1, h2, h3⟩ := h
  refine (rnum_any w _ g b _ _ D (K + 1) h2 hk.i).mono ?_
  rintro e w' ⟨rfl, ht, D', hx⟩
  rw [take_num h1, strike_filter, take_bad h1 hr false (by rw [decide_eq_false (by omega)])] at *
  exact ⟨rfl, ht, hs, D', h1, hx, ht.ext h3 (fun r hr => by
    rcases List.mem_cons.1 hr with rfl | hr
    · exact h2.lo.1
    · rw [List.mem_singleton.1 hr]; exact h2.lo.2)⟩
theorem rs_text {W0 w : World} {g b : Nat} {fs : List Fld} {K t : Int} (h : RS W0 w g b fs K) (hr : rising 0 fs) (hk : IsK K) (h11 : 10 ≤ K) (ht : t = K + 1) :
    Calls Tryz.prog 25 #[.pointer (some ⟨g, 0, none⟩), .int .i64 t] w fun e w' => ∃ A c, e = .returned (.slice A (textAt fs t).length c) ∧ Turn [g, b] w w' ∧ RS W0 w' g b fs t ∧ Rd w' A (textAt fs t).length (u8s (textAt fs t)) ∧ (textAt fs t).length ≤ c ∧ (textAt fs t).length ≤ maxLen := by
  subst ht
  obtain ⟨hs, D, h1, h2, h3⟩ := h
  refine (rtext_any w _ g b _ _ D (K + 1) h2 hk.i).mono ?_
  rintro e w' ⟨rfl, ht, D', hx⟩
  have hrd : w'.ownsRow W0.heap.size 5 1 (.slice (takeH (hs.filter fun h => decide (K < h.1.tag)) (K + 1) true).2.1 (takeH (hs.filter fun h => decide (K < h.1.tag)) (K + 1) true).1.bytes.length (takeH (hs.filter fun h => decide (K < h.1.tag)) (K + 1) true).2.2) (takeH (hs.filter fun h => decide (K < h.1.tag)) (K + 1) true).1.bytes.length (u8s (takeH (hs.filter fun h => decide (K < h.1.tag)) (K + 1) true).1.bytes) := by
    unfold takeH
    cases hf : findH (hs.filter fun h => decide (K < h.1.tag)) (K + 1) with
    | none => exact World.ownsRow_nil _ _ _ _
    | some x =>
      dsimp only
      by_cases hxt : x.1.text = true
      · rw [if_pos hxt]
        have hm := (find_some hf).1
        refine ht.own (h2.txt x hm) fun r hr hc => ?_
        rcases List.mem_cons.1 hc with rfl | hc
        · exact blk_off (h2.txt x hm) h2.blk (by decide) hr
        · rw [List.mem_singleton.1 hc] at hr
          exact own_notmap h2.own (h2.txt x hm) hr
      · rw [if_neg hxt]
        exact World.ownsRow_nil _ _ _ _
  rw [take_text h1] at hrd
  rw [take_text h1]
  rw [strike_filter, take_bad h1 hr true (by rw [decide_eq_true (by omega)])] at hx
  have hml : (textAt fs (K + 1)).length ≤ maxLen := by
    rcases hrd.2 with ⟨hv, h0⟩ | ⟨g, cap, cur, hv, _, _, hnc, hcm, _⟩
    · simp only [maxLen]; omega
    · omega
  exact ⟨_, _, rfl, ht, ⟨hs, D', h1, hx, ht.ext h3 (fun r hr => by
    rcases List.mem_cons.1 hr with rfl | hr
    · exact h2.lo.1
    · rw [List.mem_singleton.1 hr]; exact h2.lo.2)⟩, rd_own hrd, own_ncap hrd, hml⟩
def errK (fs : List Fld) (K : Int) : Nat := if fs.any (fun f => decide (f.tag ≤ K) && wrongF f) = true then 33 else if fs.any (fun f => decide (K < f.tag)) = true then 20 else 0
theorem rs_err {W0 w : World} {g b : Nat} {fs : List Fld} {K : Int} (h : RS W0 w g b fs K) :
    Calls Tryz.prog 27 #[.pointer (some ⟨g, 0, none⟩)] w fun e w' => e = .returned (.int .i64 (errK fs K : Nat)) ∧ Ext w w' := by
  obtain ⟨hs, D, h1, h2, h3⟩ := h
  refine (rerr_any w _ g b _ _ D h2).mono ?_
  rintro e w' ⟨rfl, hx⟩
  refine ⟨?_, hx⟩
  congr 4
  unfold errR errK wrongB
  split
  · rw [if_pos (by simp)]
  · rw [if_neg (by simp)]
    have : (0 < (hs.filter fun h => decide (K < h.1.tag)).length) ↔ fs.any (fun f => decide (K < f.tag)) = true := by
      rw [← h1, List.any_map, List.any_eq_true, List.length_pos_iff_exists_mem]
      constructor
      · rintro ⟨x, hx⟩
        obtain ⟨a, b⟩ := List.mem_filter.1 hx
        exact ⟨x, a, b⟩
      · rintro ⟨x, a, b⟩
        exact ⟨x, List.mem_filter.2 ⟨a, b⟩⟩
    by_cases h : 0 < (hs.filter fun h => decide (K < h.1.tag)).length
    · rw [if_pos h, if_pos (this.1 h)]
    · rw [if_neg h, if_neg (fun hc => h (this.2 hc))]
/-- A new reader: the fault, or a reader of the fields. -/
theorem rs_new (A : Option Addr) (n c : Nat) (l : List UInt8) (w : World) (hr : Rd w A n (u8s l)) (hnc : n ≤ c) (hn : n ≤ maxLen) :
    Calls Tryz.prog 21 #[.slice A n c] w fun e w' => Ext w w' ∧ (((dec l).2.2 ≠ 0 ∧ e = .returned (.tuple #[.pointer none, .int .i64 ((dec l).2.2 : Nat)])) ∨
      ((dec l).2.2 = 0 ∧ ∃ g b, e = .returned (.tuple #[.pointer (some ⟨g, 0, none⟩), .int .i64 0]) ∧ RS w w' g b (dec l).1 0)) := by
  refine (newReader_any A n c l w hr hnc hn).mono ?_
  rintro e w' ⟨hx, h | ⟨he, g, b, hs, D, rfl, hm, hR⟩⟩
  · exact ⟨hx, .inl h⟩
  · obtain ⟨_, _, _, _, _, _, hft, _⟩ := dec_inv he
    exact ⟨hx, .inr ⟨he, g, b, rfl, RS.mk0 hx hm hR (rising_mem (rising_of_faults hft))⟩⟩
end Go.Proofs.YtipdilmlodakoaaGreat
