/-
  The plain law of a state's record: its fields, what a reading makes of fields, and the way there and back. No program in sight.
-/
/-
  The plain law of a record's reading: what is found by tag, the run of the lines, forms and gaps; there and back. No program in sight.
-/
import Derived.Test.YtipdilmlodakoaaGreatWrP
import Derived.Test.YtipdilmlodakoaaGreatOrdP
namespace Go.Proofs.YtipdilmlodakoaaGreat
open Go.RowKit
set_option linter.unusedVariables false
set_option linter.unusedSimpArgs false
def lineV (l : Ln) : List Int := [l.item, l.price, l.qty, l.shipped]
def lineB (l : Ln) : List UInt8 := (lineV l).flatMap fun v => venc (toU v)
def numsOf (s : St) : List Int := [s.order, s.status, s.prior, s.cur, s.tax, s.paid, s.refunded, s.events, s.refused, s.stamp]
def numFs (t : Int) : List Int → List Fld
  | [] => []
  | v :: r => ⟨t, false, toU v, []⟩ :: numFs (t + 1) r
def lineFs (t : Int) : List Ln → List Fld
  | [] => []
  | l :: r => ⟨t, true, 0, lineB l⟩ :: lineFs (t + 1) r
def whoF (s : St) : Fld := ⟨11, true, 0, s.who.data.toList⟩
def allF (s : St) : List Fld := numFs 1 (numsOf s) ++ (whoF s :: lineFs 12 s.lines)
def holds (f : Fld) : Bool := if f.text then !f.bytes.isEmpty else decide (f.num ≠ 0)
/-- The fields of a state's record. -/
def refF (s : St) : List Fld := (allF s).filter holds
/-- The record of a state, and the fault. -/
def canE (s : St) : List UInt8 × Nat := if validB s = true then (encR (refF s), encE (refF s)) else ([], 40)
theorem numFs_app (t : Int) (a b : List Int) : numFs t (a ++ b) = numFs t a ++ numFs (t + a.length) b := by
  induction a generalizing t with
  | nil => simp [numFs]
  | cons v r ih => simp only [List.cons_append, numFs, ih, List.length_cons]; rw [show t + 1 + (r.length : Int) = t + ((r.length + 1 : Nat) : Int) by omega]
theorem lineFs_app (t : Int) (a b : List Ln) : lineFs t (a ++ b) = lineFs t a ++ lineFs (t + a.length) b := by
  induction a generalizing t with
  | nil => simp [lineFs]
  | cons v r ih => simp only [List.cons_append, lineFs, ih, List.length_cons]; rw [show t + 1 + (r.length : Int) = t + ((r.length + 1 : Nat) : Int) by omega]
theorem numFs_len (t : Int) (a : List Int) : (numFs t a).length = a.length := by
  induction a generalizing t with
  | nil => rfl
  | cons v r ih => simp [numFs, ih]
theorem lineFs_len (t : Int) (a : List Ln) : (lineFs t a).length = a.length := by
  induction a generalizing t with
  | nil => rfl
  | cons v r ih => simp [lineFs, ih]
theorem numFs_take {t : Int} {l : List Int} {k : Nat} (hk : k < l.length) : numFs t (l.take (k + 1)) = numFs t (l.take k) ++ [⟨t + k, false, toU l[k], []⟩] := by
  rw [List.take_succ_eq_append_getElem hk, numFs_app]
  simp [numFs, List.length_take, Nat.min_eq_left (Nat.le_of_lt hk)]
theorem lineFs_take {t : Int} {l : List Ln} {k : Nat} (hk : k < l.length) : lineFs t (l.take (k + 1)) = lineFs t (l.take k) ++ [⟨t + k, true, 0, lineB l[k]⟩] := by
  rw [List.take_succ_eq_append_getElem hk, lineFs_app]
  simp [lineFs, List.length_take, Nat.min_eq_left (Nat.le_of_lt hk)]
theorem mem_numFs {t : Int} {l : List Int} {f : Fld} (h : f ∈ numFs t l) : t ≤ f.tag ∧ f.tag < t + l.length ∧ f.text = false ∧ f.bytes = [] ∧ f.num < 18446744073709551616 := by
  induction l generalizing t with
  | nil => cases h
  | cons v r ih =>
    rcases List.mem_cons.1 h with rfl | h
    · exact ⟨by dsimp only; omega, by dsimp only; simp; omega, rfl, rfl, toU_lt v⟩
    · have := ih h; simp only [List.length_cons]; exact ⟨by omega, by omega, this.2.2⟩
theorem mem_lineFs {t : Int} {l : List Ln} {f : Fld} (h : f ∈ lineFs t l) : t ≤ f.tag ∧ f.tag < t + l.length ∧ f.text = true ∧ f.num = 0 ∧ ∃ x ∈ l, f.bytes = lineB x := by
  induction l generalizing t with
  | nil => cases h
  | cons v r ih =>
    rcases List.mem_cons.1 h with rfl | h
    · exact ⟨by dsimp only; omega, by dsimp only; simp; omega, rfl, rfl, v, List.mem_cons_self .., rfl⟩
    · obtain ⟨a, b, c, d, x, hx, e⟩ := ih h
      simp only [List.length_cons]
      exact ⟨by omega, by omega, c, d, x, List.mem_cons_of_mem _ hx, e⟩
/-- Strictly rising tags, behind the tag b. -/
def rising (b : Int) : List Fld → Prop
  | [] => True
  | f :: r => b < f.tag ∧ rising f.tag r
theorem rising_mem {b : Int} {l : List Fld} (h : rising b l) : ∀ f ∈ l, b < f.tag := by
  induction l generalizing b with
  | nil => intro f hf; cases hf
  | cons g r ih =>
    intro f hf
    rcases List.mem_cons.1 hf with rfl | hf
    · exact h.1
    · have h1 := ih h.2 f hf; have h2 := h.1; omega
theorem rising_weak {b c : Int} {l : List Fld} (h : rising b l) (hc : c ≤ b) : rising c l := by
  cases l with
  | nil => trivial
  | cons f r => have h1 := h.1; exact ⟨by omega, h.2⟩
theorem rising_app {b : Int} {l m : List Fld} (h : rising b l) {c : Int} (hc : ∀ f ∈ l, f.tag ≤ c) (hb : b ≤ c) (hm : rising c m) : rising b (l ++ m) := by
  induction l generalizing b with
  | nil => exact rising_weak hm hb
  | cons f r ih => exact ⟨h.1, ih h.2 (fun g hg => hc g (List.mem_cons_of_mem _ hg)) (hc f (List.mem_cons_self ..))⟩
theorem rising_filter {b : Int} {l : List Fld} (p : Fld → Bool) (h : rising b l) : rising b (l.filter p) := by
  induction l generalizing b with
  | nil => trivial
  | cons f r ih =>
    rw [List.filter_cons]
    split
    · exact ⟨h.1, ih h.2⟩
    · exact rising_weak (ih h.2) (by have := h.1; omega)
theorem rising_numFs (t : Int) (l : List Int) : rising (t - 1) (numFs t l) := by
  induction l generalizing t with
  | nil => trivial
  | cons v r ih => exact ⟨by dsimp only; omega, by have := ih (t + 1); rw [show t + 1 - 1 = t by omega] at this; exact this⟩
theorem rising_lineFs (t : Int) (l : List Ln) : rising (t - 1) (lineFs t l) := by
  induction l generalizing t with
  | nil => trivial
  | cons v r ih => exact ⟨by dsimp only; omega, by have := ih (t + 1); rw [show t + 1 - 1 = t by omega] at this; exact this⟩
theorem rising_allF (s : St) : rising 0 (allF s) := by
  unfold allF
  refine rising_app (c := 10) (rising_numFs 1 _) (fun f hf => ?_) (by omega) ⟨by unfold whoF; dsimp only; omega, ?_⟩
  · have := mem_numFs hf
    have h2 : (numsOf s).length = 10 := rfl
    omega
  · exact rising_lineFs 12 _
theorem rising_of_faults {last : Int} {fs : List Fld} (h : faults last fs = 0) : rising last fs := by
  induction fs generalizing last with
  | nil => trivial
  | cons f r ih =>
    simp only [faults] at h
    split at h
    · omega
    · rename_i h1
      exact ⟨(fault_ok (by omega : fault f last = 0)).2.2.1, ih h⟩
/-- A line's text: four numbers. -/
theorem lineB_eq (l : Ln) : lineB l = venc (toU l.item) ++ (venc (toU l.price) ++ (venc (toU l.qty) ++ venc (toU l.shipped))) := by
  simp [lineB, lineV]
theorem toU_pos {v : Int} (h : 0 ≤ v) (h2 : v < 18446744073709551616) : toU v = v.toNat := by unfold toU; rw [Int.emod_eq_of_lt h h2]
theorem lineB_len {l : Ln} (h : lnB l = true) : 0 < (lineB l).length ∧ (lineB l).length ≤ 13 := by
  rw [lnB_iff] at h
  rw [lineB_eq]
  have h1 := venc_len 2 (toU l.item) (by rw [toU_pos (by omega) (by omega)]; omega)
  have h2 := venc_len 3 (toU l.price) (by rw [toU_pos (by omega) (by omega)]; omega)
  have h3 := venc_len 2 (toU l.qty) (by rw [toU_pos (by omega) (by omega)]; omega)
  have h4 := venc_len 2 (toU l.shipped) (by rw [toU_pos (by omega) (by omega)]; omega)
  have h5 := venc_pos (toU l.item)
  simp only [List.length_append]
  omega
/-- What a field of a valid state's list is like. -/
def okF (f : Fld) : Prop := 1 ≤ f.tag ∧ f.tag ≤ 31 ∧ f.wf ∧ f.plain ∧ (f.text = true → f.bytes.length ≤ 200)
theorem who_len {s : St} (h : VOk s) : s.who.data.toList.length ≤ 16 := by
  have := h.named
  simp only [namedB, and_t, decide_eq_true_eq] at this
  have h2 := this.1
  rw [Array.length_toList]
  exact h2
theorem okF_all {s : St} (h : VOk s) : ∀ f ∈ allF s, okF f := by
  intro f hf
  unfold allF at hf
  rw [List.mem_append, List.mem_cons] at hf
  rcases hf with hf | rfl | hf
  · obtain ⟨a, b, c, d, e⟩ := mem_numFs hf
    have h2 : (numsOf s).length = 10 := rfl
    exact ⟨by omega, by omega, ⟨by omega, by omega, e⟩, ⟨fun h => (by rw [c] at h; cases h), fun _ => d⟩, fun h => (by rw [c] at h; cases h)⟩
  · have := who_len h
    unfold whoF okF Fld.wf Fld.plain
    exact ⟨by dsimp only; omega, by dsimp only; omega, ⟨by dsimp only; omega, by dsimp only; omega, by dsimp only; omega⟩, ⟨fun _ => rfl, fun h => by cases h⟩, fun _ => by dsimp only; omega⟩
  · obtain ⟨a, b, c, d, x, hx, e⟩ := mem_lineFs hf
    have h2 := h.len
    have h3 := lineB_len (h.lines_ok x hx)
    exact ⟨by omega, by omega, ⟨by omega, by omega, by omega⟩, ⟨fun _ => d, fun h => (by rw [c] at h; cases h)⟩, fun _ => by rw [e]; omega⟩
theorem fault_holds {f : Fld} {last : Int} (h : okF f) (hl : last < f.tag) : (holds f = true → fault f last = 0) ∧ (holds f = false → fault f last = 22) := by
  obtain ⟨h1, h2, h3, h4, h5⟩ := h
  unfold holds fault
  cases ht : f.text with
  | true =>
    have h6 := h5 ht
    simp only [if_true, Bool.not_eq_true', Bool.not_eq_false', List.isEmpty_iff]
    rw [if_neg (by omega), if_neg (by omega)]
    constructor
    · intro h
      have : f.bytes.length ≠ 0 := fun hc => by have := List.eq_nil_of_length_eq_zero hc; rw [this] at h; cases h
      rw [if_neg this, if_neg (by omega)]
    · intro h
      rw [h]
      rfl
  | false =>
    simp only [Bool.false_eq_true, if_false, decide_eq_true_eq, decide_eq_false_iff_not, ne_eq, Decidable.not_not]
    rw [if_neg (by omega), if_neg (by omega)]
    exact ⟨fun h => if_neg h, fun h => if_pos h⟩
theorem foldl_addW (fs : List Fld) (l : List Fld) (hr : rising (lastT l) fs) (ho : ∀ f ∈ fs, okF f) : fs.foldl addW (l, 0) = (l ++ fs.filter holds, 0) := by
  induction fs generalizing l with
  | nil => simp
  | cons f r ih =>
    rw [List.foldl_cons, List.filter_cons]
    have hf := fault_holds (ho f (List.mem_cons_self ..)) hr.1
    cases hh : holds f with
    | true =>
      rw [addW_ok (hf.1 hh), ih (l ++ [f]) (by rw [lastT_snoc]; exact hr.2) (fun g hg => ho g (List.mem_cons_of_mem _ hg))]
      simp
    | false =>
      rw [addW_zero (hf.2 hh), ih l (rising_weak hr.2 (by have := hr.1; omega)) (fun g hg => ho g (List.mem_cons_of_mem _ hg))]
      simp
theorem fold_all {s : St} (h : VOk s) : (allF s).foldl addW ([], 0) = (refF s, 0) := by
  rw [foldl_addW (allF s) [] (rising_allF s) (okF_all h)]
  simp [refF]
theorem faults_rise {last : Int} {fs : List Fld} (hr : rising last fs) (ho : ∀ f ∈ fs, okF f ∧ holds f = true) : faults last fs = 0 := by
  induction fs generalizing last with
  | nil => rfl
  | cons f r ih =>
    have h1 := (fault_holds (ho f (List.mem_cons_self ..)).1 hr.1).1 (ho f (List.mem_cons_self ..)).2
    simp only [faults]
    rw [if_neg (by omega)]
    exact ih hr.2 fun g hg => ho g (List.mem_cons_of_mem _ hg)
theorem refF_rises (s : St) : rising 0 (refF s) := rising_filter holds (rising_allF s)
theorem refF_ok {s : St} (h : VOk s) : ∀ f ∈ refF s, okF f ∧ holds f = true := fun f hf => ⟨okF_all h f (List.mem_filter.1 hf).1, (List.mem_filter.1 hf).2⟩
theorem refF_faults {s : St} (h : VOk s) : faults 0 (refF s) = 0 := faults_rise (refF_rises s) (refF_ok h)
theorem one_num_len (f : Fld) (ht : f.text = false) (h1 : 0 ≤ f.tag) (h2 : f.tag ≤ 31) (hn : f.num < 18446744073709551616) : (one f).length ≤ 11 := by
  unfold one
  rw [ht]
  simp only [Bool.false_eq_true, if_false, List.length_append]
  have h3 := venc_len 0 (f.tag.toNat * 2) (by omega)
  have h4 := venc_len10 f.num hn
  omega
theorem one_text_len (f : Fld) (ht : f.text = true) (h1 : 0 ≤ f.tag) (h2 : f.tag ≤ 31) (hn : f.bytes.length ≤ 16) : (one f).length ≤ 18 := by
  unfold one
  rw [ht]
  simp only [if_true, List.length_append]
  have h3 := venc_len 0 (f.tag.toNat * 2 + 1) (by omega)
  have h4 := venc_len 0 f.bytes.length (by omega)
  omega
theorem encB_filter_len (p : Fld → Bool) (fs : List Fld) : (encB (fs.filter p)).length ≤ (encB fs).length := by
  induction fs with
  | nil => simp
  | cons f r ih =>
    rw [List.filter_cons, encB_cons, List.length_append]
    split
    · rw [encB_cons, List.length_append]; omega
    · omega
theorem encB_each (k : Nat) (fs : List Fld) (h : ∀ f ∈ fs, (one f).length ≤ k) : (encB fs).length ≤ k * fs.length := by
  induction fs with
  | nil => simp [encB]
  | cons f r ih =>
    rw [encB_cons, List.length_append, List.length_cons, Nat.mul_succ]
    have h1 := h f (List.mem_cons_self ..)
    have h2 := ih fun g hg => h g (List.mem_cons_of_mem _ hg)
    omega
theorem refF_len {s : St} (h : VOk s) : (encB (refF s)).length ≤ 420 := by
  refine Nat.le_trans (encB_filter_len holds (allF s)) ?_
  unfold allF
  rw [encB_app, encB_cons, List.length_append, List.length_append]
  have hn : (numsOf s).length = 10 := rfl
  have h1 := encB_each 11 (numFs 1 (numsOf s)) fun f hf => by
    obtain ⟨a, b, c, d, e⟩ := mem_numFs hf
    exact one_num_len f c (by omega) (by omega) e
  rw [numFs_len, hn] at h1
  have h2 := one_text_len (whoF s) rfl (by unfold whoF; dsimp only; omega) (by unfold whoF; dsimp only; omega) (who_len h)
  have h3 := encB_each 18 (lineFs 12 s.lines) fun f hf => by
    obtain ⟨a, b, c, d, x, hx, e⟩ := mem_lineFs hf
    have h2 := h.len
    have h3 := lineB_len (h.lines_ok x hx)
    exact one_text_len f c (by omega) (by omega) (by rw [e]; omega)
  rw [lineFs_len] at h3
  have h4 := h.len
  omega
theorem refF_enc {s : St} (h : VOk s) : encE (refF s) = 0 := by
  unfold encE
  rw [refF_faults h, if_neg (by simp), if_neg (by have := refF_len h; omega)]
theorem refF_wf {s : St} (h : VOk s) : FWf (refF s) := fun f hf => (refF_ok h f hf).1.2.2.1
theorem refF_dec {s : St} (h : VOk s) : dec (encR (refF s)) = (refF s, 0, 0) := by
  rw [dec_enc (refF_wf h) (refF_enc h), map_strip fun f hf => (refF_ok h f hf).1.2.2.2.1]
theorem canE_ok {s : St} (h : validB s = true) : canE s = (encR (refF s), 0) := by
  unfold canE
  rw [if_pos h, refF_enc (valid_iff.1 h)]
end Go.Proofs.YtipdilmlodakoaaGreat

namespace Go.Proofs.YtipdilmlodakoaaGreat
open Go.RowKit
set_option linter.unusedVariables false
set_option linter.unusedSimpArgs false
def findF (fs : List Fld) (t : Int) : Option Fld := fs.find? fun f => decide (f.tag = t)
def cnumAt (fs : List Fld) (t : Int) : Nat := match findF fs t with
  | some f => if f.text = false then f.num else 0
  | none => 0
def textAt (fs : List Fld) (t : Int) : List UInt8 := match findF fs t with
  | some f => if f.text = true then f.bytes else []
  | none => []
/-- The texts that stand behind each other from the tag t on, n at most. -/
def runT (fs : List Fld) : Nat → Int → List (List UInt8)
  | 0, _ => []
  | n + 1, t => if textAt fs t = [] then [] else textAt fs t :: runT fs n (t + 1)
def clampN (u : Nat) : Nat := if 4611686018427387904 < u then 4611686018427387904 else u
/-- n numbers with which b begins, and what stands behind them. -/
def unlV : Nat → List UInt8 → Option (List Int × List UInt8)
  | 0, b => some ([], b)
  | n + 1, b => if (vdec b).2.2 ≠ 0 then none else (unlV n (b.drop (vdec b).2.1)).map fun x => (((clampN (vdec b).1 : Nat) : Int) :: x.1, x.2)
def lnOf (v : List Int) : Ln := ⟨v.getD 0 0, v.getD 1 0, v.getD 2 0, v.getD 3 0⟩
def unl (b : List UInt8) : Ln × Bool := match unlV 4 b with
  | some x => (lnOf x.1, x.2.isEmpty)
  | none => (⟨0, 0, 0, 0⟩, false)
def runOf (fs : List Fld) : List (List UInt8) := runT fs 16 12
/-- The last tag that a reading asks for. -/
def lastK (fs : List Fld) : Int := 11 + (if (runOf fs).length < 16 then (runOf fs).length + 1 else 16 : Nat)
def wrongF (f : Fld) : Bool := f.text != decide (11 ≤ f.tag)
def formE (fs : List Fld) : Nat := if fs.any (fun f => decide (f.tag ≤ lastK fs) && wrongF f) = true then 33 else if fs.any (fun f => decide (lastK fs < f.tag)) = true then 20 else 0
def numI (fs : List Fld) (t : Int) : Int := ((clampN (cnumAt fs t) : Nat) : Int)
def stOf (fs : List Fld) : St :=
  ⟨numI fs 1, numI fs 2, numI fs 3, numI fs 4, numI fs 5, (runOf fs).map fun b => (unl b).1, numI fs 6, numI fs 7, numI fs 8, numI fs 9, numI fs 10, ⟨(textAt fs 11).toArray⟩⟩
def allOk (fs : List Fld) : Bool := (runOf fs).all fun b => (unl b).2
def zeroSt : St := ⟨0, 0, 0, 0, 0, [], 0, 0, 0, 0, 0, ⟨#[]⟩⟩
def canD (b : List UInt8) : St × Nat :=
  if (dec b).2.2 ≠ 0 then (zeroSt, (dec b).2.2)
  else if formE (dec b).1 ≠ 0 then (zeroSt, formE (dec b).1)
  else if allOk (dec b).1 = true ∧ validB (stOf (dec b).1) = true then (stOf (dec b).1, 0) else (zeroSt, 40)
/-- Found in a rising list: the one of that tag. -/
theorem find_mem {b : Int} {fs : List Fld} {f : Fld} (hr : rising b fs) (h : f ∈ fs) : findF fs f.tag = some f := by
  induction fs generalizing b with
  | nil => cases h
  | cons g r ih =>
    unfold findF
    rw [List.find?_cons]
    rcases List.mem_cons.1 h with rfl | h
    · simp
    · have h1 := rising_mem hr.2 f h
      rw [decide_eq_false (by omega)]
      exact ih hr.2 h
theorem find_tag {fs : List Fld} {t : Int} {f : Fld} (h : findF fs t = some f) : f ∈ fs ∧ f.tag = t := ⟨List.mem_of_find?_eq_some h, by simpa using List.find?_some h⟩
theorem find_none {fs : List Fld} {t : Int} (h : ∀ f ∈ fs, f.tag ≠ t) : findF fs t = none := List.find?_eq_none.2 fun f hf => by simpa using h f hf
theorem find_snoc {fs : List Fld} {f : Fld} {t : Int} (h : ∀ g ∈ fs, g.tag < f.tag) : findF (fs ++ [f]) t = if f.tag = t then some f else findF fs t := by
  unfold findF
  rw [List.find?_append]
  by_cases ht : f.tag = t
  · rw [if_pos ht]
    have := find_none (fs := fs) (t := t) fun g hg => by have := h g hg; omega
    unfold findF at this
    rw [this]
    simp [ht]
  · rw [if_neg ht]
    simp [ht]
/-- Two rising lists that answer alike are the same. -/
theorem rising_ext {b c : Int} {fs gs : List Fld} (h1 : rising b fs) (h2 : rising c gs) (h : ∀ t, findF fs t = findF gs t) : fs = gs := by
  induction fs generalizing b c gs with
  | nil =>
    cases gs with
    | nil => rfl
    | cons g r =>
      have := h g.tag
      rw [find_mem h2 (List.mem_cons_self ..)] at this
      cases this
  | cons f r ih =>
    cases gs with
    | nil =>
      have := h f.tag
      rw [find_mem h1 (List.mem_cons_self ..)] at this
      cases this
    | cons g q =>
      have hf := find_mem h1 (List.mem_cons_self ..)
      have hg := find_mem h2 (List.mem_cons_self ..)
      have e : f = g := by
        by_cases hlt : f.tag < g.tag
        · have h3 := h f.tag
          rw [hf, find_none fun x hx => by
            rcases List.mem_cons.1 hx with rfl | hx
            · omega
            · have := rising_mem h2.2 x hx; omega] at h3
          cases h3
        · by_cases hgt : g.tag < f.tag
          · have h3 := h g.tag
            rw [hg, find_none fun x hx => by
              rcases List.mem_cons.1 hx with rfl | hx
              · omega
              · have := rising_mem h1.2 x hx; omega] at h3
            cases h3
          · have h4 : f.tag = g.tag := by omega
            have h3 := h f.tag
            rw [hf, h4, hg] at h3
            injection h3
      subst e
      congr 1
      refine ih h1.2 h2.2 fun t => ?_
      by_cases ht : f.tag = t
      · rw [find_none fun x hx => by have := rising_mem h1.2 x hx; omega, find_none fun x hx => by have := rising_mem h2.2 x hx; omega]
      · have h3 := h t
        unfold findF at h3 ⊢
        rw [List.find?_cons, List.find?_cons, decide_eq_false ht] at h3
        exact h3
/-- What a state's own fields answer. -/
theorem find_num {t : Int} {l : List Int} {k : Nat} (hk : k < l.length) : findF (numFs t l) (t + k) = some ⟨t + k, false, toU l[k], []⟩ := by
  induction l generalizing t k with
  | nil => simp at hk
  | cons v r ih =>
    unfold findF
    rw [numFs, List.find?_cons]
    cases k with
    | zero => simp
    | succ k =>
      rw [decide_eq_false (by dsimp only; omega)]
      have := ih (t := t + 1) (k := k) (by simpa using hk)
      rw [show t + 1 + (k : Int) = t + ((k + 1 : Nat) : Int) by omega] at this
      exact this
theorem find_line {t : Int} {l : List Ln} {k : Nat} (hk : k < l.length) : findF (lineFs t l) (t + k) = some ⟨t + k, true, 0, lineB l[k]⟩ := by
  induction l generalizing t k with
  | nil => simp at hk
  | cons v r ih =>
    unfold findF
    rw [lineFs, List.find?_cons]
    cases k with
    | zero => simp
    | succ k =>
      rw [decide_eq_false (by dsimp only; omega)]
      have := ih (t := t + 1) (k := k) (by simpa using hk)
      rw [show t + 1 + (k : Int) = t + ((k + 1 : Nat) : Int) by omega] at this
      exact this
theorem find_filter {b : Int} {fs : List Fld} (hr : rising b fs) (p : Fld → Bool) (t : Int) : findF (fs.filter p) t = match findF fs t with
    | some f => if p f = true then some f else none
    | none => none := by
  cases h : findF fs t with
  | none =>
    refine find_none fun f hf => ?_
    have h1 := List.find?_eq_none.1 h f (List.mem_filter.1 hf).1
    simpa using h1
  | some f =>
    obtain ⟨hm, ht⟩ := find_tag h
    dsimp only
    split
    · rename_i hp
      have := find_mem (rising_filter p hr) (List.mem_filter.2 ⟨hm, hp⟩)
      rw [ht] at this
      exact this
    · rename_i hp
      refine find_none fun g hg hc => hp ?_
      have h1 := find_mem hr (List.mem_filter.1 hg).1
      rw [hc, h] at h1
      injection h1 with h1
      rw [h1]
      exact (List.mem_filter.1 hg).2
theorem find_app {fs gs : List Fld} {t : Int} : findF (fs ++ gs) t = (findF fs t).or (findF gs t) := by unfold findF; exact List.find?_append
theorem all_num (s : St) {k : Nat} (hk : k < 10) : findF (allF s) (1 + k) = some ⟨1 + k, false, toU ((numsOf s)[k]'hk), []⟩ := by
  unfold allF
  rw [find_app, find_num (l := numsOf s) hk]
  rfl
theorem all_who (s : St) : findF (allF s) 11 = some (whoF s) := by
  unfold allF
  rw [find_app, find_none fun f hf => by have := mem_numFs hf; have h2 : (numsOf s).length = 10 := rfl; omega]
  unfold findF
  rw [List.find?_cons]
  rfl
theorem all_line (s : St) {k : Nat} (hk : k < s.lines.length) : findF (allF s) (12 + k) = some ⟨12 + k, true, 0, lineB s.lines[k]⟩ := by
  unfold allF
  rw [find_app, find_none fun f hf => by have := mem_numFs hf; have h2 : (numsOf s).length = 10 := rfl; omega]
  have := find_line (t := 12) hk
  unfold findF at this ⊢
  rw [List.find?_cons, decide_eq_false (by unfold whoF; dsimp only; omega)]
  exact this
theorem all_none (s : St) {t : Int} (h : t < 1 ∨ 12 + s.lines.length ≤ t) : findF (allF s) t = none := by
  refine find_none fun f hf => ?_
  unfold allF at hf
  rw [List.mem_append, List.mem_cons] at hf
  have h2 : (numsOf s).length = 10 := rfl
  rcases hf with hf | rfl | hf
  · have := mem_numFs hf; omega
  · unfold whoF; dsimp only; omega
  · have := mem_lineFs hf; omega
theorem numAt_filter {b : Int} {fs : List Fld} (hr : rising b fs) (t : Int) : cnumAt (fs.filter holds) t = cnumAt fs t := by
  unfold cnumAt
  rw [find_filter hr]
  cases h : findF fs t with
  | none => rfl
  | some f =>
    dsimp only
    by_cases hh : holds f = true
    · rw [if_pos hh]
    · rw [if_neg hh]
      dsimp only
      split
      · rename_i h1
        simp [holds, h1] at hh
        exact hh.symm
      · rfl
theorem textAt_filter {b : Int} {fs : List Fld} (hr : rising b fs) (t : Int) : textAt (fs.filter holds) t = textAt fs t := by
  unfold textAt
  rw [find_filter hr]
  cases h : findF fs t with
  | none => rfl
  | some f =>
    dsimp only
    by_cases hh : holds f = true
    · rw [if_pos hh]
    · rw [if_neg hh]
      dsimp only
      split
      · rename_i h1
        simp [holds, h1] at hh
        exact hh.symm
      · rfl
theorem ref_num (s : St) {k : Nat} (hk : k < 10) : cnumAt (refF s) (1 + k) = toU ((numsOf s)[k]'hk) := by
  unfold refF
  rw [numAt_filter (rising_allF s)]
  unfold cnumAt
  rw [all_num s hk]
  rfl
theorem ref_who (s : St) : textAt (refF s) 11 = s.who.data.toList := by
  unfold refF
  rw [textAt_filter (rising_allF s)]
  unfold textAt
  rw [all_who s]
  rfl
theorem lineB_pos (l : Ln) : lineB l ≠ [] := fun h => by
  have h2 := venc_pos (toU l.item)
  have := congrArg List.length h
  rw [lineB_eq] at this
  simp only [List.length_append, List.length_nil] at this
  omega
theorem ref_line (s : St) {k : Nat} (hk : k < s.lines.length) : textAt (refF s) (12 + k) = lineB s.lines[k] := by
  unfold refF
  rw [textAt_filter (rising_allF s)]
  unfold textAt
  rw [all_line s hk]
  rfl
theorem ref_none (s : St) {t : Int} (h : 12 + s.lines.length ≤ t) : textAt (refF s) t = [] := by
  unfold refF
  rw [textAt_filter (rising_allF s)]
  unfold textAt
  rw [all_none s (.inr h)]
theorem ref_run (s : St) (n k : Nat) (h : s.lines.length ≤ k + n) : runT (refF s) n (12 + k) = (s.lines.drop k).map lineB := by
  induction n generalizing k with
  | zero => rw [List.drop_of_length_le (by omega)]; rfl
  | succ n ih =>
    rw [runT]
    by_cases hk : k < s.lines.length
    · rw [ref_line s hk, if_neg (lineB_pos _), show (12 : Int) + k + 1 = 12 + ((k + 1 : Nat) : Int) by omega, ih (k + 1) (by omega), List.drop_eq_getElem_cons hk]
      rfl
    · rw [ref_none s (by omega), if_pos rfl, List.drop_of_length_le (by omega)]
      rfl
theorem runOf_ref {s : St} (h : VOk s) : runOf (refF s) = s.lines.map lineB := by
  have := ref_run s 16 0 (by have := h.len; omega)
  simpa [runOf] using this
theorem unl_one {v : Int} (h0 : 0 ≤ v) (h1 : v ≤ 4611686018427387904) (n : Nat) (r : List UInt8) : unlV (n + 1) (venc (toU v) ++ r) = (unlV n r).map fun x => (v :: x.1, x.2) := by
  have e := toU_pos h0 (by omega)
  rw [unlV, vdec_enc _ _ (toU_lt v)]
  simp only [ne_eq, not_true_eq_false, if_false, List.drop_left]
  have : ((clampN (toU v) : Nat) : Int) = v := by unfold clampN; rw [e, if_neg (by omega)]; omega
  rw [this]
theorem unl_line {l : Ln} (h : lnB l = true) : unl (lineB l) = (l, true) := by
  rw [lnB_iff] at h
  have : unlV 4 (lineB l) = some ([l.item, l.price, l.qty, l.shipped], []) := by
    rw [lineB_eq, unl_one (by omega) (by omega), unl_one (by omega) (by omega), unl_one (by omega) (by omega)]
    have := unl_one (v := l.shipped) (by omega) (by omega) 0 []
    rw [List.append_nil] at this
    rw [this]
    rfl
  unfold unl
  rw [this]
  rfl
theorem numI_ref {s : St} {k : Nat} (hk : k < 10) (h0 : 0 ≤ (numsOf s)[k]'hk) (h1 : (numsOf s)[k]'hk ≤ 4611686018427387904) : numI (refF s) (1 + k) = (numsOf s)[k]'hk := by
  unfold numI
  rw [ref_num s hk]
  have e := toU_pos h0 (by omega)
  unfold clampN
  rw [e, if_neg (by omega)]
  omega
theorem due_big {s : St} (h : VOk s) : 0 ≤ s.paid ∧ s.paid ≤ 320000000000000 := by
  have h1 := net_bound h.lines_ok
  have h2 := tax_bound h1.1 h.tax.1 h.tax.2
  have h3 := h.len
  have h4 := h.paid
  have h5 := h.refunded
  unfold due at h4
  omega
theorem prior_big {s : St} (h : VOk s) : 0 ≤ s.prior ∧ s.prior ≤ 3 := by
  have h1 := h.prior
  unfold priorB at h1
  split at h1
  · simp at h1; omega
  · simp at h1; omega
theorem stOf_ref {s : St} (h : VOk s) : stOf (refF s) = s := by
  have h2 := h.order; have h3 := h.status; have h4 := h.cur; have h5 := h.tax; have h6 := h.refunded; have h7 := h.events; have h8 := h.refused; have h9 := h.stamp
  have h10 := due_big h; have h11 := prior_big h
  obtain ⟨order, status, prior, cur, tax, lines, paid, refunded, events, refused, stamp, who⟩ := s
  dsimp only at *
  have e1 := numI_ref (s := ⟨order, status, prior, cur, tax, lines, paid, refunded, events, refused, stamp, who⟩) (k := 0) (by decide) (by dsimp [numsOf]; omega) (by dsimp [numsOf]; omega)
  have e2 := numI_ref (s := ⟨order, status, prior, cur, tax, lines, paid, refunded, events, refused, stamp, who⟩) (k := 1) (by decide) (by dsimp [numsOf]; omega) (by dsimp [numsOf]; omega)
  have e3 := numI_ref (s := ⟨order, status, prior, cur, tax, lines, paid, refunded, events, refused, stamp, who⟩) (k := 2) (by decide) (by dsimp [numsOf]; omega) (by dsimp [numsOf]; omega)
  have e4 := numI_ref (s := ⟨order, status, prior, cur, tax, lines, paid, refunded, events, refused, stamp, who⟩) (k := 3) (by decide) (by dsimp [numsOf]; omega) (by dsimp [numsOf]; omega)
  have e5 := numI_ref (s := ⟨order, status, prior, cur, tax, lines, paid, refunded, events, refused, stamp, who⟩) (k := 4) (by decide) (by dsimp [numsOf]; omega) (by dsimp [numsOf]; omega)
  have e6 := numI_ref (s := ⟨order, status, prior, cur, tax, lines, paid, refunded, events, refused, stamp, who⟩) (k := 5) (by decide) (by dsimp [numsOf]; omega) (by dsimp [numsOf]; omega)
  have e7 := numI_ref (s := ⟨order, status, prior, cur, tax, lines, paid, refunded, events, refused, stamp, who⟩) (k := 6) (by decide) (by dsimp [numsOf]; omega) (by dsimp [numsOf]; omega)
  have e8 := numI_ref (s := ⟨order, status, prior, cur, tax, lines, paid, refunded, events, refused, stamp, who⟩) (k := 7) (by decide) (by dsimp [numsOf]; omega) (by dsimp [numsOf]; omega)
  have e9 := numI_ref (s := ⟨order, status, prior, cur, tax, lines, paid, refunded, events, refused, stamp, who⟩) (k := 8) (by decide) (by dsimp [numsOf]; omega) (by dsimp [numsOf]; omega)
  have e10 := numI_ref (s := ⟨order, status, prior, cur, tax, lines, paid, refunded, events, refused, stamp, who⟩) (k := 9) (by decide) (by dsimp [numsOf]; omega) (by dsimp [numsOf]; omega)
  have er := runOf_ref h
  have ew := ref_who ⟨order, status, prior, cur, tax, lines, paid, refunded, events, refused, stamp, who⟩
  replace e1 : numI _ 1 = order := e1
  replace e2 : numI _ 2 = status := e2
  replace e3 : numI _ 3 = prior := e3
  replace e4 : numI _ 4 = cur := e4
  replace e5 : numI _ 5 = tax := e5
  replace e6 : numI _ 6 = paid := e6
  replace e7 : numI _ 7 = refunded := e7
  replace e8 : numI _ 8 = events := e8
  replace e9 : numI _ 9 = refused := e9
  replace e10 : numI _ 10 = stamp := e10
  unfold stOf
  rw [e1, e2, e3, e4, e5, e6, e7, e8, e9, e10, er, ew, List.map_map]
  have hl : lines.map ((fun b => (unl b).1) ∘ lineB) = lines := by
    conv => rhs; rw [← List.map_id lines]
    refine List.map_congr_left fun l hl => ?_
    have := unl_line (h.lines_ok l hl)
    simp [this]
  rw [hl]
theorem canD_enc {s : St} (h : validB s = true) : canD (encR (refF s)) = (s, 0) := by
  have hv := valid_iff.1 h
  unfold canD
  rw [refF_dec hv]
  have hK : lastK (refF s) = 11 + (if s.lines.length < 16 then s.lines.length + 1 else 16 : Nat) := by
    unfold lastK; rw [runOf_ref hv, List.length_map]
  have hl := hv.len
  have ht : ∀ f ∈ refF s, 1 ≤ f.tag ∧ f.tag < 12 + s.lines.length ∧ wrongF f = false := fun f hf => by
    have h1 := (List.mem_filter.1 hf).1
    unfold allF at h1
    rw [List.mem_append, List.mem_cons] at h1
    have h2 : (numsOf s).length = 10 := rfl
    rcases h1 with h1 | rfl | h1
    · obtain ⟨a, b, c, d, e⟩ := mem_numFs h1
      exact ⟨by omega, by omega, by unfold wrongF; rw [c, decide_eq_false (by omega)]; rfl⟩
    · exact ⟨by unfold whoF; dsimp only; omega, by unfold whoF; dsimp only; omega, rfl⟩
    · obtain ⟨a, b, c, d, e⟩ := mem_lineFs h1
      exact ⟨by omega, by omega, by unfold wrongF; rw [c, decide_eq_true (by omega)]; rfl⟩
  have hF : formE (refF s) = 0 := by
    unfold formE
    rw [if_neg, if_neg]
    · simp only [List.any_eq_true, decide_eq_true_eq, not_exists, not_and]
      intro f hf
      have := ht f hf
      rw [hK]
      split <;> omega
    · simp only [List.any_eq_true, and_t, not_exists, not_and]
      intro f hf _
      have := (ht f hf).2.2
      rw [this]
      simp
  have hA : allOk (refF s) = true := by
    unfold allOk
    rw [runOf_ref hv, List.all_map, List.all_eq_true]
    intro l hl
    have := unl_line (hv.lines_ok l hl)
    simp [this]
  simp only [ne_eq, not_true_eq_false, if_false]
  rw [hF, if_neg (by simp), stOf_ref hv, if_pos ⟨hA, h⟩]
theorem unlV_inv {n : Nat} {b : List UInt8} {v : List Int} {r : List UInt8} (h : unlV (n + 1) b = some (v, r)) :
    ∃ u b' v', b = venc u ++ b' ∧ u < 18446744073709551616 ∧ v = ((clampN u : Nat) : Int) :: v' ∧ unlV n b' = some (v', r) := by
  rw [unlV] at h
  split at h
  · cases h
  · rename_i h1
    obtain ⟨⟨u, k, e⟩, hx⟩ : ∃ x, x = vdec b := ⟨_, rfl⟩
    rw [← hx] at h h1
    simp only [ne_eq, Decidable.not_not] at h1
    subst h1
    obtain ⟨b', hb, hk, hu⟩ := vdec_inv hx.symm
    dsimp only at h
    rw [hb, hk, List.drop_left] at h
    cases h2 : unlV n b' with
    | none => rw [h2] at h; cases h
    | some x =>
      rw [h2] at h
      simp only [Option.map_some, Option.some.injEq, Prod.mk.injEq] at h
      exact ⟨u, b', x.1, hb, hu, h.1.symm, by rw [← h.2]; exact h2⟩
theorem toU_clamp {u : Nat} (hu : u < 18446744073709551616) (h : ((clampN u : Nat) : Int) < 4611686018427387904) : toU ((clampN u : Nat) : Int) = u := by
  rw [toU_pos (by omega) (by omega)]
  unfold clampN at *
  split at h
  · omega
  · rename_i h1
    rw [if_neg h1]
    omega
theorem unl_inv {b : List UInt8} (h : (unl b).2 = true) (hl : lnB (unl b).1 = true) : lineB (unl b).1 = b := by
  unfold unl at h hl ⊢
  cases h4 : unlV 4 b with
  | none => rw [h4] at h; cases h
  | some x =>
    obtain ⟨v, r⟩ := x
    rw [h4] at h hl
    dsimp only at h hl ⊢
    obtain rfl : r = [] := by simpa using h
    obtain ⟨u1, b1, v1, e1, hu1, rfl, g1⟩ := unlV_inv h4
    obtain ⟨u2, b2, v2, e2, hu2, rfl, g2⟩ := unlV_inv g1
    obtain ⟨u3, b3, v3, e3, hu3, rfl, g3⟩ := unlV_inv g2
    obtain ⟨u4, b4, v4, e4, hu4, rfl, g4⟩ := unlV_inv g3
    simp only [unlV, Option.some.injEq, Prod.mk.injEq] at g4
    obtain ⟨rfl, rfl⟩ := g4
    rw [lnB_iff] at hl
    rw [lineB_eq]
    have hq : lnOf [((clampN u1 : Nat) : Int), ((clampN u2 : Nat) : Int), ((clampN u3 : Nat) : Int), ((clampN u4 : Nat) : Int)] = ⟨((clampN u1 : Nat) : Int), ((clampN u2 : Nat) : Int), ((clampN u3 : Nat) : Int), ((clampN u4 : Nat) : Int)⟩ := rfl
    rw [hq] at hl ⊢
    dsimp only at hl ⊢
    rw [toU_clamp hu1 (by omega), toU_clamp hu2 (by omega), toU_clamp hu3 (by omega), toU_clamp hu4 (by omega), e1, e2, e3, e4, List.append_nil]
/-- The run: its texts stand under their tags, none empty; the next one is not there. -/
theorem run_at (fs : List Fld) (n : Nat) (t : Int) (k : Nat) (hk : k < (runT fs n t).length) : textAt fs (t + k) = (runT fs n t)[k] ∧ textAt fs (t + k) ≠ [] := by
  induction n generalizing t k with
  | zero => simp [runT] at hk
  | succ n ih =>
    by_cases h : textAt fs t = []
    · rw [runT, if_pos h] at hk; simp at hk
    · have e : runT fs (n + 1) t = textAt fs t :: runT fs n (t + 1) := by rw [runT, if_neg h]
      simp only [e] at hk ⊢
      cases k with
      | zero => simp; exact h
      | succ k =>
        have := ih (t + 1) k (by simpa using hk)
        rw [show t + ((k + 1 : Nat) : Int) = t + 1 + k by omega]
        simpa using this
theorem run_len (fs : List Fld) (n : Nat) (t : Int) : (runT fs n t).length ≤ n := by
  induction n generalizing t with
  | zero => simp [runT]
  | succ n ih =>
    rw [runT]
    split
    · simp
    · simp [ih]
theorem run_end (fs : List Fld) (n : Nat) (t : Int) (h : (runT fs n t).length < n) : textAt fs (t + (runT fs n t).length) = [] := by
  induction n generalizing t with
  | zero => simp at h
  | succ n ih =>
    by_cases h0 : textAt fs t = []
    · rw [runT, if_pos h0]; simpa using h0
    · have e : runT fs (n + 1) t = textAt fs t :: runT fs n (t + 1) := by rw [runT, if_neg h0]
      rw [e] at h ⊢
      have := ih (t + 1) (by simpa using h)
      rw [List.length_cons, show t + (((runT fs n (t + 1)).length + 1 : Nat) : Int) = t + 1 + ((runT fs n (t + 1)).length : Nat) by omega]
      exact this
theorem formE_zero {fs : List Fld} (h : formE fs = 0) : ∀ f ∈ fs, f.tag ≤ lastK fs ∧ wrongF f = false := by
  unfold formE at h
  split at h
  · cases h
  rename_i h1
  split at h
  · cases h
  rename_i h2
  intro f hf
  simp only [List.any_eq_true, decide_eq_true_eq, not_exists, not_and] at h2
  simp only [List.any_eq_true, and_t, decide_eq_true_eq, not_exists, not_and] at h1
  have h3 := h2 f hf
  have h4 := h1 f hf (by omega)
  exact ⟨by omega, by simpa using h4⟩
theorem numsOf_big {s : St} (h : VOk s) : ∀ v ∈ numsOf s, 0 ≤ v ∧ v < 4611686018427387904 := by
  have h2 := h.order; have h3 := h.status; have h4 := h.cur; have h5 := h.tax; have h6 := h.refunded; have h7 := h.events; have h8 := h.refused; have h9 := h.stamp
  have h10 := due_big h; have h11 := prior_big h
  intro v hv
  simp only [numsOf, List.mem_cons, List.not_mem_nil, or_false] at hv
  rcases hv with rfl | rfl | rfl | rfl | rfl | rfl | rfl | rfl | rfl | rfl <;> omega
theorem nums_stOf (fs : List Fld) {k : Nat} (hk : k < 10) : (numsOf (stOf fs))[k]'hk = numI fs (1 + k) := by
  have : k = 0 ∨ k = 1 ∨ k = 2 ∨ k = 3 ∨ k = 4 ∨ k = 5 ∨ k = 6 ∨ k = 7 ∨ k = 8 ∨ k = 9 := by omega
  rcases this with rfl | rfl | rfl | rfl | rfl | rfl | rfl | rfl | rfl | rfl <;> rfl
theorem numAt_lt {fs : List Fld} (hw : FWf fs) (t : Int) : cnumAt fs t < 18446744073709551616 := by
  unfold cnumAt
  split
  · rename_i f h
    have := (hw f (find_tag h).1).2.2
    split <;> omega
  · omega
theorem back_eq {fs : List Fld} (hf : faults 0 fs = 0) (hw : FWf fs) (hp : ∀ f ∈ fs, f.plain) (h1 : formE fs = 0) (h2 : allOk fs = true) (h3 : VOk (stOf fs)) : refF (stOf fs) = fs := by
  have hr := rising_of_faults hf
  have hok : ∀ f ∈ fs, 1 ≤ f.tag ∧ (f.text = true → f.bytes ≠ []) ∧ (f.text = false → f.num ≠ 0) := by
    have key : ∀ (fs : List Fld) (last : Int), faults last fs = 0 → ∀ f ∈ fs, 1 ≤ f.tag ∧ (f.text = true → f.bytes ≠ []) ∧ (f.text = false → f.num ≠ 0) := by
      intro fs
      induction fs with
      | nil => intro _ _ f hf; cases hf
      | cons g r ih =>
        intro last h f hf
        simp only [faults] at h
        split at h
        · omega
        · rename_i h0
          rcases List.mem_cons.1 hf with rfl | hf
          · obtain ⟨a, b, c, d, e⟩ := fault_ok (by omega : fault f last = 0)
            exact ⟨a, fun h hc => (by have := (d h).1; rw [hc] at this; simp at this), fun h => by have := e h; omega⟩
          · exact ih g.tag h f hf
    exact key fs 0 hf
  have hform := formE_zero h1
  have hlen : (stOf fs).lines.length = (runOf fs).length := by simp [stOf]
  have hbig := numsOf_big h3
  refine rising_ext (refF_rises _) hr fun t => ?_
  unfold refF
  rw [find_filter (rising_allF _)]
  by_cases ht : t < 1 ∨ 12 + (stOf fs).lines.length ≤ t
  · rw [all_none _ ht]
    refine (find_none fun f hf hc => ?_).symm
    have a := hok f hf
    obtain ⟨b, c⟩ := hform f hf
    unfold lastK at b
    rw [hlen] at ht
    split at b
    · rename_i h16
      have e : f.tag = 12 + ((runOf fs).length : Nat) := by omega
      have h5 := run_end fs 16 12 h16
      have h6 := find_mem hr hf
      have h7 : f.text = true := by unfold wrongF at c; rw [decide_eq_true (by omega)] at c; simpa using c
      unfold textAt at h5
      rw [show (12 : Int) + ((runT fs 16 12).length : Nat) = f.tag by rw [e]; rfl, h6] at h5
      dsimp only at h5
      rw [if_pos h7] at h5
      exact a.2.1 h7 h5
    · omega
  · by_cases h10 : t ≤ 10
    · obtain ⟨k, rfl⟩ : ∃ k : Nat, t = 1 + k := ⟨(t - 1).toNat, by omega⟩
      have hk : k < 10 := by omega
      rw [all_num _ hk]
      have hb := hbig _ (List.getElem_mem (l := numsOf (stOf fs)) hk)
      rw [nums_stOf fs hk] at hb ⊢
      have e : toU (numI fs (1 + k)) = cnumAt fs (1 + k) := toU_clamp (numAt_lt hw _) hb.2
      rw [e]
      cases hF : findF fs (1 + k) with
      | none =>
        have : cnumAt fs (1 + k) = 0 := by unfold cnumAt; rw [hF]
        rw [this]
        rfl
      | some f =>
        obtain ⟨hm, htg⟩ := find_tag hF
        have h7 : f.text = false := by have c := (hform f hm).2; unfold wrongF at c; rw [decide_eq_false (by omega)] at c; simpa using c
        have e2 : cnumAt fs (1 + k) = f.num := by unfold cnumAt; rw [hF]; dsimp only; rw [if_pos h7]
        have h8 := (hok f hm).2.2 h7
        have h9 := (hp f hm).2 h7
        rw [e2]
        obtain ⟨tag, text, num, bytes⟩ := f
        dsimp only at *
        subst h7 h9 htg
        rw [if_pos (by simp [holds]; exact h8)]
    · by_cases h11 : t = 11
      · subst h11
        rw [all_who]
        have e : whoF (stOf fs) = ⟨11, true, 0, textAt fs 11⟩ := by simp [whoF, stOf]
        rw [e]
        cases hF : findF fs 11 with
        | none =>
          have : textAt fs 11 = [] := by unfold textAt; rw [hF]
          rw [this]
          rfl
        | some f =>
          obtain ⟨hm, htg⟩ := find_tag hF
          have h7 : f.text = true := by have c := (hform f hm).2; unfold wrongF at c; rw [decide_eq_true (by omega)] at c; simpa using c
          have e2 : textAt fs 11 = f.bytes := by unfold textAt; rw [hF]; dsimp only; rw [if_pos h7]
          have h8 := (hok f hm).2.1 h7
          have h9 := (hp f hm).1 h7
          rw [e2]
          obtain ⟨tag, text, num, bytes⟩ := f
          dsimp only at *
          subst h7 h9 htg
          rw [if_pos (by simp [holds]; exact h8)]
      · obtain ⟨k, rfl⟩ : ∃ k : Nat, t = 12 + k := ⟨(t - 12).toNat, by omega⟩
        have hk : k < (stOf fs).lines.length := by omega
        have hk2 : k < (runT fs 16 12).length := by have := hk; rw [hlen] at this; exact this
        rw [all_line _ hk]
        obtain ⟨r1, r2⟩ := run_at fs 16 12 k hk2
        have e : lineB ((stOf fs).lines[k]) = textAt fs (12 + k) := by
          have e1 : (stOf fs).lines[k] = (unl (runT fs 16 12)[k]).1 := by simp [stOf, runOf]
          have h5 : (unl (runT fs 16 12)[k]).2 = true := by
            unfold allOk runOf at h2
            exact List.all_eq_true.1 h2 _ (List.getElem_mem hk2)
          have h6 : lnB (unl (runT fs 16 12)[k]).1 = true := by rw [← e1]; exact h3.lines_ok _ (List.getElem_mem hk)
          rw [e1, unl_inv h5 h6, r1]
        rw [e]
        cases hF : findF fs (12 + k) with
        | none =>
          have : textAt fs (12 + k) = [] := by unfold textAt; rw [hF]
          exact absurd this r2
        | some f =>
          obtain ⟨hm, htg⟩ := find_tag hF
          have h7 : f.text = true := by have c := (hform f hm).2; unfold wrongF at c; rw [decide_eq_true (by omega)] at c; simpa using c
          have e2 : textAt fs (12 + k) = f.bytes := by unfold textAt; rw [hF]; dsimp only; rw [if_pos h7]
          have h8 := (hok f hm).2.1 h7
          have h9 := (hp f hm).1 h7
          rw [e2]
          obtain ⟨tag, text, num, bytes⟩ := f
          dsimp only at *
          subst h7 h9 htg
          rw [if_pos (by simp [holds]; exact h8)]
theorem canD_inv {b : List UInt8} (h : (canD b).2 = 0) : validB (canD b).1 = true ∧ encR (refF (canD b).1) = b := by
  unfold canD at h ⊢
  split at h
  · rename_i h1; exact absurd h h1
  rename_i h1
  split at h
  · rename_i h2; exact absurd h h2
  rename_i h2
  split at h
  · rename_i h3
    rw [if_neg h1, if_neg h2, if_pos h3]
    obtain ⟨i1, i2, i3, i4, i5, i6, i7, i8⟩ := dec_inv (b := b) (by simpa using h1)
    refine ⟨h3.2, ?_⟩
    dsimp only
    rw [back_eq i7 i3 i4 (by simpa using h2) h3.1 (valid_iff.1 h3.2), i1]
  · cases h
theorem canD_bad {b : List UInt8} (h : (canD b).2 ≠ 0) : (canD b).1 = zeroSt := by
  unfold canD at h ⊢
  split
  · rfl
  split
  · rfl
  split
  · rename_i h1 h2 h3
    rw [if_neg h1, if_neg h2, if_pos h3] at h
    exact absurd rfl h
  · rfl
end Go.Proofs.YtipdilmlodakoaaGreat
