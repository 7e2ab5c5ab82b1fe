/-
  The plain law of a state's record: its fields, what a reading makes of fields, and the way there and back. No program in sight.
-/
import Derived.Test.YtipdilmlodakoaaWrP
import Derived.Test.YtipdilmlodakoaaOrdP
namespace Go.Proofs.Ytipdilmlodakoaa
open Go.RowKit
set_option linter.unusedVariables false
set_option linter.unusedSimpArgs false
def lineV (l : Ln) : List Int := [l.item, l.price, l.qty, l.shipped]
def lineB (l : Ln) : List UInt8 := (lineV l).flatMap fun v => venc (toU v)
def numsOf (s : St) : List Int := [s.order, s.status, s.prior, s.cur, s.tax, s.paid, s.refunded, s.events, s.refused, s.stamp]
def numFs (t : Int) : List Int → List Fld
  | [] => []
  | v :: r => ⟨t, false, toU v, []⟩ :: numFs (t + 1) r
def lineFs (t : Int) : List Ln → List Fld
  | [] => []
  | l :: r => ⟨t, true, 0, lineB l⟩ :: lineFs (t + 1) r
def whoF (s : St) : Fld := ⟨11, true, 0, s.who.data.toList⟩
def allF (s : St) : List Fld := numFs 1 (numsOf s) ++ (whoF s :: lineFs 12 s.lines)
def holds (f : Fld) : Bool := if f.text then !f.bytes.isEmpty else decide (f.num ≠ 0)
/-- The fields of a state's record. -/
def refF (s : St) : List Fld := (allF s).filter holds
/-- The record of a state, and the fault. -/
def canE (s : St) : List UInt8 × Nat := if validB s = true then (encR (refF s), encE (refF s)) else ([], 40)
theorem numFs_app (t : Int) (a b : List Int) : numFs t (a ++ b) = numFs t a ++ numFs (t + a.length) b := by
  induction a generalizing t with
  | nil => simp [numFs]
  | cons v r ih => simp only [List.cons_append, numFs, ih, List.length_cons]; rw [show t + 1 + (r.length : Int) = t + ((r.length + 1 : Nat) : Int) by omega]
theorem lineFs_app (t : Int) (a b : List Ln) : lineFs t (a ++ b) = lineFs t a ++ lineFs (t + a.length) b := by
  induction a generalizing t with
  | nil => simp [lineFs]
  | cons v r ih => simp only [List.cons_append, lineFs, ih, List.length_cons]; rw [show t + 1 + (r.length : Int) = t + ((r.length + 1 : Nat) : Int) by omega]
theorem numFs_len (t : Int) (a : List Int) : (numFs t a).length = a.length := by
  induction a generalizing t with
  | nil => rfl
  | cons v r ih => simp [numFs, ih]
theorem lineFs_len (t : Int) (a : List Ln) : (lineFs t a).length = a.length := by
  induction a generalizing t with
  | nil => rfl
  | cons v r ih => simp [lineFs, ih]
theorem numFs_take {t : Int} {l : List Int} {k : Nat} (hk : k < l.length) : numFs t (l.take (k + 1)) = numFs t (l.take k) ++ [⟨t + k, false, toU l[k], []⟩] := by
  rw [List.take_succ_eq_append_getElem hk, numFs_app]
  simp [numFs, List.length_take, Nat.min_eq_left (Nat.le_of_lt hk)]
theorem lineFs_take {t : Int} {l : List Ln} {k : Nat} (hk : k < l.length) : lineFs t (l.take (k + 1)) = lineFs t (l.take k) ++ [⟨t + k, true, 0, lineB l[k]⟩] := by
  rw [List.take_succ_eq_append_getElem hk, lineFs_app]
  simp [lineFs, List.length_take, Nat.min_eq_left (Nat.le_of_lt hk)]
theorem mem_numFs {t : Int} {l : List Int} {f : Fld} (h : f ∈ numFs t l) : t ≤ f.tag ∧ f.tag < t + l.length ∧ f.text = false ∧ f.bytes = [] ∧ f.num < 18446744073709551616 := by
  induction l generalizing t with
  | nil => cases h
  | cons v r ih =>
    rcases List.mem_cons.1 h with rfl | h
    · exact ⟨by dsimp only; omega, by dsimp only; simp; omega, rfl, rfl, toU_lt v⟩
    · have := ih h; simp only [List.length_cons]; exact ⟨by omega, by omega, this.2.2⟩
theorem mem_lineFs {t : Int} {l : List Ln} {f : Fld} (h : f ∈ lineFs t l) : t ≤ f.tag ∧ f.tag < t + l.length ∧ f.text = true ∧ f.num = 0 ∧ ∃ x ∈ l, f.bytes = lineB x := by
  induction l generalizing t with
  | nil => cases h
  | cons v r ih =>
    rcases List.mem_cons.1 h with rfl | h
    · exact ⟨by dsimp only; omega, by dsimp only; simp; omega, rfl, rfl, v, List.mem_cons_self .., rfl⟩
    · obtain ⟨a, b, c, d, x, hx, e⟩ := ih h
      simp only [List.length_cons]
      exact ⟨by omega, by omega, c, d, x, List.mem_cons_of_mem _ hx, e⟩
/-- Strictly rising tags, behind the tag b. -/
def rising (b : Int) : List Fld → Prop
  | [] => True
  | f :: r => b < f.tag ∧ rising f.tag r
theorem rising_mem {b : Int} {l : List Fld} (h : rising b l) : ∀ f ∈ l, b < f.tag := by
  induction l generalizing b with
  | nil => intro f hf; cases hf
  | cons g r ih =>
    intro f hf
    rcases List.mem_cons.1 hf with rfl | hf
    · exact h.1
    · have h1 := ih h.2 f hf; have h2 := h.1; omega
theorem rising_weak {b c : Int} {l : List Fld} (h : rising b l) (hc : c ≤ b) : rising c l := by
  cases l with
  | nil => trivial
  | cons f r => have h1 := h.1; exact ⟨by omega, h.2⟩
theorem rising_app {b : Int} {l m : List Fld} (h : rising b l) {c : Int} (hc : ∀ f ∈ l, f.tag ≤ c) (hb : b ≤ c) (hm : rising c m) : rising b (l ++ m) := by
  induction l generalizing b with
  | nil => exact rising_weak hm hb
  | cons f r ih => exact ⟨h.1, ih h.2 (fun g hg => hc g (List.mem_cons_of_mem _ hg)) (hc f (List.mem_cons_self ..))⟩
theorem rising_filter {b : Int} {l : List Fld} (p : Fld → Bool) (h : rising b l) : rising b (l.filter p) := by
  induction l generalizing b with
  | nil => trivial
  | cons f r ih =>
    rw [List.filter_cons]
    split
    · exact ⟨h.1, ih h.2⟩
    · exact rising_weak (ih h.2) (by have := h.1; omega)
theorem rising_numFs (t : Int) (l : List Int) : rising (t - 1) (numFs t l) := by
  induction l generalizing t with
  | nil => trivial
  | cons v r ih => exact ⟨by dsimp only; omega, by have := ih (t + 1); rw [show t + 1 - 1 = t by omega] at this; exact this⟩
theorem rising_lineFs (t : Int) (l : List Ln) : rising (t - 1) (lineFs t l) := by
  induction l generalizing t with
  | nil => trivial
  | cons v r ih => exact ⟨by dsimp only; omega, by have := ih (t + 1); rw [show t + 1 - 1 = t by omega] at this; exact this⟩
theorem rising_allF (s : St) : rising 0 (allF s) := by
  unfold allF
  refine rising_app (c := 10) (rising_numFs 1 _) (fun f hf => ?_) (by omega) ⟨by unfold whoF; dsimp only; omega, ?_⟩
  · have := mem_numFs hf
    have h2 : (numsOf s).length = 10 := rfl
    omega
  · exact rising_lineFs 12 _
theorem rising_of_faults {last : Int} {fs : List Fld} (h : faults last fs = 0) : rising last fs := by
  induction fs generalizing last with
  | nil => trivial
  | cons f r ih =>
    simp only [faults] at h
    split at h
    · omega
    · rename_i h1
      exact ⟨(fault_ok (by omega : fault f last = 0)).2.2.1, ih h⟩
/-- A line's text: four numbers. -/
theorem lineB_eq (l : Ln) : lineB l = venc (toU l.item) ++ (venc (toU l.price) ++ (venc (toU l.qty) ++ venc (toU l.shipped))) := by
  simp [lineB, lineV]
theorem toU_pos {v : Int} (h : 0 ≤ v) (h2 : v < 18446744073709551616) : toU v = v.toNat := by unfold toU; rw [Int.emod_eq_of_lt h h2]
theorem lineB_len {l : Ln} (h : lnB l = true) : 0 < (lineB l).length ∧ (lineB l).length ≤ 13 := by
  rw [lnB_iff] at h
  rw [lineB_eq]
  have h1 := venc_len 2 (toU l.item) (by rw [toU_pos (by omega) (by omega)]; omega)
  have h2 := venc_len 3 (toU l.price) (by rw [toU_pos (by omega) (by omega)]; omega)
  have h3 := venc_len 2 (toU l.qty) (by rw [toU_pos (by omega) (by omega)]; omega)
  have h4 := venc_len 2 (toU l.shipped) (by rw [toU_pos (by omega) (by omega)]; omega)
  have h5 := venc_pos (toU l.item)
  simp only [List.length_append]
  omega
/-- What a field of a valid state's list is like. -/
def okF (f : Fld) : Prop := 1 ≤ f.tag ∧ f.tag ≤ 31 ∧ f.wf ∧ f.plain ∧ (f.text = true → f.bytes.length ≤ 200)
theorem who_len {s : St} (h : VOk s) : s.who.data.toList.length ≤ 16 := by
  have := h.named
  simp only [namedB, and_t, decide_eq_true_eq] at this
  have h2 := this.1
  rw [Array.length_toList]
  exact h2
theorem okF_all {s : St} (h : VOk s) : ∀ f ∈ allF s, okF f := by
  intro f hf
  unfold allF at hf
  rw [List.mem_append, List.mem_cons] at hf
  rcases hf with hf | rfl | hf
  · obtain ⟨a, b, c, d, e⟩ := mem_numFs hf
    have h2 : (numsOf s).length = 10 := rfl
    exact ⟨by omega, by omega, ⟨by omega, by omega, e⟩, ⟨fun h => (by rw [c] at h; cases h), fun _ => d⟩, fun h => (by rw [c] at h; cases h)⟩
  · have := who_len h
    unfold whoF okF Fld.wf Fld.plain
    exact ⟨by dsimp only; omega, by dsimp only; omega, ⟨by dsimp only; omega, by dsimp only; omega, by dsimp only; omega⟩, ⟨fun _ => rfl, fun h => by cases h⟩, fun _ => by dsimp only; omega⟩
  · obtain ⟨a, b, c, d, x, hx, e⟩ := mem_lineFs hf
    have h2 := h.len
    have h3 := lineB_len (h.lines_ok x hx)
    exact ⟨by omega, by omega, ⟨by omega, by omega, by omega⟩, ⟨fun _ => d, fun h => (by rw [c] at h; cases h)⟩, fun _ => by rw [e]; omega⟩
theorem fault_holds {f : Fld} {last : Int} (h : okF f) (hl : last < f.tag) : (holds f = true → fault f last = 0) ∧ (holds f = false → fault f last = 22) := by
  obtain ⟨h1, h2, h3, h4, h5⟩ := h
  unfold holds fault
  cases ht : f.text with
  | true =>
    have h6 := h5 ht
    simp only [if_true, Bool.not_eq_true', Bool.not_eq_false', List.isEmpty_iff]
    rw [if_neg (by omega), if_neg (by omega)]
    constructor
    · intro h
      have : f.bytes.length ≠ 0 := fun hc => by have := List.eq_nil_of_length_eq_zero hc; rw [this] at h; cases h
      rw [if_neg this, if_neg (by omega)]
    · intro h
      rw [h]
      rfl
  | false =>
    simp only [Bool.false_eq_true, if_false, decide_eq_true_eq, decide_eq_false_iff_not, ne_eq, Decidable.not_not]
    rw [if_neg (by omega), if_neg (by omega)]
    exact ⟨fun h => if_neg h, fun h => if_pos h⟩
theorem foldl_addW (fs : List Fld) (l : List Fld) (hr : rising (lastT l) fs) (ho : ∀ f ∈ fs, okF f) : fs.foldl addW (l, 0) = (l ++ fs.filter holds, 0) := by
  induction fs generalizing l with
  | nil => simp
  | cons f r ih =>
    rw [List.foldl_cons, List.filter_cons]
    have hf := fault_holds (ho f (List.mem_cons_self ..)) hr.1
    cases hh : holds f with
    | true =>
      rw [addW_ok (hf.1 hh), ih (l ++ [f]) (by rw [lastT_snoc]; exact hr.2) (fun g hg => ho g (List.mem_cons_of_mem _ hg))]
      simp
    | false =>
      rw [addW_zero (hf.2 hh), ih l (rising_weak hr.2 (by have := hr.1; omega)) (fun g hg => ho g (List.mem_cons_of_mem _ hg))]
      simp
theorem fold_all {s : St} (h : VOk s) : (allF s).foldl addW ([], 0) = (refF s, 0) := by
  rw [foldl_addW (allF s) [] (rising_allF s) (okF_all h)]
  simp [refF]
theorem faults_rise {last : Int} {fs : List Fld} (hr : rising last fs) (ho : ∀ f ∈ fs, okF f ∧ holds f = true) : faults last fs = 0 := by
  induction fs generalizing last with
  | nil => rfl
  | cons f r ih =>
    have h1 := (fault_holds (ho f (List.mem_cons_self ..)).1 hr.1).1 (ho f (List.mem_cons_self ..)).2
    simp only [faults]
    rw [if_neg (by omega)]
    exact ih hr.2 fun g hg => ho g (List.mem_cons_of_mem _ hg)
theorem refF_rises (s : St) : rising 0 (refF s) := rising_filter holds (rising_allF s)
theorem refF_ok {s : St} (h : VOk s) : ∀ f ∈ refF s, okF f ∧ holds f = true := fun f hf => ⟨okF_all h f (List.mem_filter.1 hf).1, (List.mem_filter.1 hf).2⟩
theorem refF_faults {s : St} (h : VOk s) : faults 0 (refF s) = 0 := faults_rise (refF_rises s) (refF_ok h)
theorem one_num_len (f : Fld) (ht : f.text = false) (h1 : 0 ≤ f.tag) (h2 : f.tag ≤ 31) (hn : f.num < 18446744073709551616) : (one f).length ≤ 11 := by
  unfold one
  rw [ht]
  simp only [Bool.false_eq_true, if_false, List.length_append]
  have h3 := venc_len 0 (f.tag.toNat * 2) (by omega)
  have h4 := venc_len10 f.num hn
  omega
theorem one_text_len (f : Fld) (ht : f.text = true) (h1 : 0 ≤ f.tag) (h2 : f.tag ≤ 31) (hn : f.bytes.length ≤ 16) : (one f).length ≤ 18 := by
  unfold one
  rw [ht]
  simp only [if_true, List.length_append]
  have h3 := venc_len 0 (f.tag.toNat * 2 + 1) (by omega)
  have h4 := venc_len 0 f.bytes.length (by omega)
  omega
theorem encB_filter_len (p : Fld → Bool) (fs : List Fld) : (encB (fs.filter p)).length ≤ (encB fs).length := by
  induction fs with
  | nil => simp
  | cons f r ih =>
    rw [List.filter_cons, encB_cons, List.length_append]
    split
    · rw [encB_cons, List.length_append]; omega
    · omega
theorem encB_each (k : Nat) (fs : List Fld) (h : ∀ f ∈ fs, (one f).length ≤ k) : (encB fs).length ≤ k * fs.length := by
  induction fs with
  | nil => simp [encB]
  | cons f r ih =>
    rw [encB_cons, List.length_append, List.length_cons, Nat.mul_succ]
    have h1 := h f (List.mem_cons_self ..)
    have h2 := ih fun g hg => h g (List.mem_cons_of_mem _ hg)
    omega
theorem refF_len {s : St} (h : VOk s) : (encB (refF s)).length ≤ 420 := by
  refine Nat.le_trans (encB_filter_len holds (allF s)) ?_
  unfold allF
  rw [encB_app, encB_cons, List.length_append, List.length_append]
  have hn : (numsOf s).length = 10 := rfl
  have h1 := encB_each 11 (numFs 1 (numsOf s)) fun f hf => by
    obtain ⟨a, b, c, d, e⟩ := mem_numFs hf
    exact one_num_len f c (by omega) (by omega) e
  rw [numFs_len, hn] at h1
  have h2 := one_text_len (whoF s) rfl (by unfold whoF; dsimp only; omega) (by unfold whoF; dsimp only; omega) (who_len h)
  have h3 := encB_each 18 (lineFs 12 s.lines) fun f hf => by
    obtain ⟨a, b, c, d, x, hx, e⟩ := mem_lineFs hf
    have h2 := h.len
    have h3 := lineB_len (h.lines_ok x hx)
    exact one_text_len f c (by omega) (by omega) (by rw [e]; omega)
  rw [lineFs_len] at h3
  have h4 := h.len
  omega
theorem refF_enc {s : St} (h : VOk s) : encE (refF s) = 0 := by
  unfold encE
  rw [refF_faults h, if_neg (by simp), if_neg (by have := refF_len h; omega)]
theorem refF_wf {s : St} (h : VOk s) : FWf (refF s) := fun f hf => (refF_ok h f hf).1.2.2.1
theorem refF_dec {s : St} (h : VOk s) : dec (encR (refF s)) = (refF s, 0, 0) := by
  rw [dec_enc (refF_wf h) (refF_enc h), map_strip fun f hf => (refF_ok h f hf).1.2.2.2.1]
theorem canE_ok {s : St} (h : validB s = true) : canE s = (encR (refF s), 0) := by
  unfold canE
  rw [if_pos h, refF_enc (valid_iff.1 h)]
end Go.Proofs.Ytipdilmlodakoaa
