/-
  The plain law of varints: written by groups of seven bits, read back. No program in sight.
-/
/-
  The plain law of records of fields: what is written is read, and what is read is what would be written. No program in sight.
-/
/-
  The plain law of a writer: what is kept of the fields that are put, and the first fault.
-/
/-
  The plain law of an order's events: which events are valid, what they do to a state, what they cost. No program in sight.
-/
/-
  The plain law of a state's record: its fields, what a reading makes of fields, and the way there and back. No program in sight.
-/
/-
  The plain law of a record's reading: what is found by tag, the run of the lines, forms and gaps; there and back. No program in sight.
-/
import Derived.RowKit
namespace Go.Proofs.YtjajbbgebblalaaGreatDoor
open Go.RowKit
set_option linter.unusedVariables false
set_option linter.unusedSimpArgs false
def venc (u : Nat) : List UInt8 := if u < 128 then [UInt8.ofNat u] else UInt8.ofNat (128 + u % 128) :: venc (u / 128)
termination_by u
decreasing_by omega
theorem venc_lo {u : Nat} (h : u < 128) : venc u = [UInt8.ofNat u] := by rw [venc, if_pos h]
theorem venc_hi {u : Nat} (h : ¬ u < 128) : venc u = UInt8.ofNat (128 + u % 128) :: venc (u / 128) := by rw [venc, if_neg h]
theorem venc_pos (u : Nat) : 0 < (venc u).length := by
  by_cases h : u < 128
  · rw [venc_lo h]; simp
  · rw [venc_hi h]; simp
theorem venc_len (i u : Nat) (h : u < 128 ^ (i + 1)) : (venc u).length ≤ i + 1 := by
  induction i generalizing u with
  | zero => rw [venc_lo (by simpa using h)]; simp
  | succ i ih =>
    by_cases h1 : u < 128
    · rw [venc_lo h1]; simp
    · rw [venc_hi h1]
      have : u / 128 < 128 ^ (i + 1) := by rw [Nat.div_lt_iff_lt_mul (by omega), ← Nat.pow_succ]; exact h
      have := ih _ this
      simp; omega
theorem venc_len10 (u : Nat) (h : u < 18446744073709551616) : (venc u).length ≤ 10 := venc_len 9 u (by simp; omega)
def vdecF : List UInt8 → Nat → Nat → Nat × Nat × Nat
  | [], _, _ => (0, 0, 10)
  | c :: r, i, acc =>
    if i = 9 ∧ 1 < c.toNat then (0, 0, 12)
    else if 128 ≤ c.toNat then vdecF r (i + 1) (acc + (c.toNat % 128) * 128 ^ i)
    else if c.toNat = 0 ∧ 0 < i then (0, 0, 11)
    else (acc + c.toNat * 128 ^ i, i + 1, 0)
def vdec (b : List UInt8) : Nat × Nat × Nat := vdecF b 0 0
theorem toNat_ofNat {u : Nat} (h : u < 256) : (UInt8.ofNat u).toNat = u := by simp; omega
theorem vdecF_enc (u i acc : Nat) (r : List UInt8) (h1 : u * 128 ^ i < 18446744073709551616) (h2 : 0 < i → 0 < u) : vdecF (venc u ++ r) i acc = (acc + u * 128 ^ i, i + (venc u).length, 0) := by
  induction u using Nat.strongRecOn generalizing i acc with
  | _ u ih =>
    have hi9 : i = 9 → u ≤ 1 := by rintro rfl; omega
    by_cases h : u < 128
    · rw [venc_lo h]
      simp only [List.cons_append, List.nil_append, vdecF, toNat_ofNat (show u < 256 by omega)]
      rw [if_neg (by omega), if_neg (by omega), if_neg (by omega)]
      simp
    · rw [venc_hi h]
      simp only [List.cons_append, vdecF, toNat_ofNat (show 128 + u % 128 < 256 by omega)]
      rw [if_neg (by omega), if_pos (by omega)]
      have e : 128 ^ (i + 1) = 128 * 128 ^ i := by rw [Nat.pow_succ, Nat.mul_comm]
      have h3 : u / 128 * 128 ^ (i + 1) ≤ u * 128 ^ i := by
        rw [e, ← Nat.mul_assoc]
        exact Nat.mul_le_mul_right _ (by omega)
      rw [ih (u / 128) (by omega) (i + 1) _ (by omega) (by omega)]
      have h4 : (128 + u % 128) % 128 * 128 ^ i + u / 128 * 128 ^ (i + 1) = u * 128 ^ i := by
        rw [e, ← Nat.mul_assoc, ← Nat.add_mul]
        congr 1
        omega
      simp only [List.length_cons, Prod.mk.injEq, and_true]
      exact ⟨by rw [Nat.add_assoc, h4], by omega⟩
theorem vdec_enc (u : Nat) (r : List UInt8) (h : u < 18446744073709551616) : vdec (venc u ++ r) = (u, (venc u).length, 0) := by
  have := vdecF_enc u 0 0 r (by omega) (by omega)
  simpa [vdec] using this
theorem pow128 {i : Nat} (h : i ≤ 8) : 128 ^ i ≤ 72057594037927936 := by
  have : (128 : Nat) ^ i ≤ 128 ^ 8 := Nat.pow_le_pow_right (by omega) h
  exact this
theorem vdecF_inv (b : List UInt8) (i acc v n : Nat) (hi : i ≤ 9) (h : vdecF b i acc = (v, n, 0)) :
    ∃ u r, b = venc u ++ r ∧ n = i + (venc u).length ∧ v = acc + u * 128 ^ i ∧ (0 < i → 0 < u) ∧ u * 128 ^ i < 18446744073709551616 := by
  induction b generalizing i acc with
  | nil => simp [vdecF] at h
  | cons c r ih =>
    rw [vdecF] at h
    by_cases h1 : i = 9 ∧ 1 < c.toNat
    · rw [if_pos h1] at h; simp at h
    rw [if_neg h1] at h
    have hc := c.toNat_lt
    by_cases h2 : 128 ≤ c.toNat
    · rw [if_pos h2] at h
      obtain ⟨u, s, hb, hn, hv, hu, hlt⟩ := ih (i + 1) _ (by omega) h
      have hu0 := hu (by omega)
      have e : 128 ^ (i + 1) = 128 * 128 ^ i := by rw [Nat.pow_succ, Nat.mul_comm]
      have hd : (c.toNat % 128 + 128 * u) / 128 = u := by omega
      have hve : venc (c.toNat % 128 + 128 * u) = c :: venc u := by
        rw [venc_hi (by omega), hd]
        congr 1
        apply UInt8.toNat_inj.1
        rw [toNat_ofNat (by omega)]
        omega
      refine ⟨c.toNat % 128 + 128 * u, s, ?_, ?_, ?_, ?_, ?_⟩
      · rw [hve, hb]; rfl
      · rw [hve, hn]; simp; omega
      · rw [hv, e, Nat.add_mul, Nat.add_assoc]
        congr 2
        rw [← Nat.mul_assoc, Nat.mul_comm u 128]
      · omega
      · rw [e, ← Nat.mul_assoc] at hlt
        have h8 : i ≤ 8 := by omega
        have h9 : (c.toNat % 128 + 128 * u) * 128 ^ i = c.toNat % 128 * 128 ^ i + u * 128 * 128 ^ i := by rw [Nat.add_mul, Nat.mul_comm 128 u]
        rw [h9]
        have hdv : ∃ k, 18446744073709551616 = 128 ^ i * (128 * k) := by
          refine ⟨2 * 128 ^ (8 - i), ?_⟩
          have h10 : (128 : Nat) ^ i * 128 ^ (8 - i) = 128 ^ 8 := by rw [← Nat.pow_add]; congr 1; omega
          have h11 : (128 : Nat) ^ i * (128 * (2 * 128 ^ (8 - i))) = 256 * (128 ^ i * 128 ^ (8 - i)) := by
            generalize (128 : Nat) ^ i = X
            generalize (128 : Nat) ^ (8 - i) = Y
            rw [← Nat.mul_assoc 128 2 Y, Nat.mul_left_comm]
          rw [h11, h10]
        obtain ⟨k, hk⟩ := hdv
        have hX0 : 0 < 128 ^ i := Nat.pow_pos (by omega)
        generalize 128 ^ i = X at *
        have hY : u * 128 * X = X * (u * 128) := Nat.mul_comm _ _
        rw [hk, hY] at hlt
        have h5 : u * 128 < 128 * k := Nat.lt_of_mul_lt_mul_left hlt
        rw [hk, hY, Nat.mul_comm _ X, ← Nat.mul_add]
        exact Nat.mul_lt_mul_of_pos_left (by omega) hX0
    · rw [if_neg h2] at h
      by_cases h3 : c.toNat = 0 ∧ 0 < i
      · rw [if_pos h3] at h; simp at h
      rw [if_neg h3] at h
      have hve : venc c.toNat = [c] := by
        rw [venc_lo (by omega)]; simp
      simp only [Prod.mk.injEq, and_true] at h
      refine ⟨c.toNat, r, by rw [hve]; rfl, by rw [hve]; simp; omega, h.1.symm, by omega, ?_⟩
      by_cases h9 : i = 9
      · subst h9; omega
      · have := pow128 (i := i) (by omega)
        calc c.toNat * 128 ^ i ≤ 127 * 72057594037927936 := Nat.mul_le_mul (by omega) this
          _ < _ := by decide
theorem vdec_inv {b : List UInt8} {v n : Nat} (h : vdec b = (v, n, 0)) : ∃ r, b = venc v ++ r ∧ n = (venc v).length ∧ v < 18446744073709551616 := by
  obtain ⟨u, r, hb, hn, hv, _, hlt⟩ := vdecF_inv b 0 0 v n (by omega) h
  simp at hv hn hlt
  subst hv
  exact ⟨r, hb, hn, hlt⟩
end Go.Proofs.YtjajbbgebblalaaGreatDoor

namespace Go.Proofs.YtjajbbgebblalaaGreatDoor
open Go.RowKit
set_option linter.unusedVariables false
set_option linter.unusedSimpArgs false
structure Fld where
  tag : Int
  text : Bool
  num : Nat
  bytes : List UInt8
def Fld.wf (f : Fld) : Prop := -9223372036854775808 ≤ f.tag ∧ f.tag ≤ 9223372036854775807 ∧ f.num < 18446744073709551616
def FWf (fs : List Fld) : Prop := ∀ f ∈ fs, f.wf
def noFld : Fld := ⟨0, false, 0, []⟩
/-- What is wrong with a field behind one of the tag last. -/
def fault (f : Fld) (last : Int) : Nat :=
  if f.tag < 1 ∨ 31 < f.tag then 20
  else if f.tag ≤ last then 21
  else if f.text = true then (if f.bytes.length = 0 then 22 else if 200 < f.bytes.length then 23 else 0)
  else if f.num = 0 then 22 else 0
def one (f : Fld) : List UInt8 :=
  if f.text = true then venc (f.tag.toNat * 2 + 1) ++ (venc f.bytes.length ++ f.bytes) else venc (f.tag.toNat * 2) ++ venc f.num
def encB (fs : List Fld) : List UInt8 := fs.flatMap one
def faults : Int → List Fld → Nat
  | _, [] => 0
  | last, f :: r => if fault f last ≠ 0 then fault f last else faults f.tag r
def encE (fs : List Fld) : Nat := if faults 0 fs ≠ 0 then faults 0 fs else if 1024 < (encB fs).length then 24 else 0
def encR (fs : List Fld) : List UInt8 := if encE fs = 0 then encB fs else []
def lastT (fs : List Fld) : Int := match fs.getLast? with
  | some f => f.tag
  | none => 0
theorem lastT_nil : lastT [] = 0 := rfl
theorem lastT_snoc (fs : List Fld) (f : Fld) : lastT (fs ++ [f]) = f.tag := by simp [lastT]
theorem encB_nil : encB [] = [] := rfl
theorem encB_cons (f : Fld) (fs : List Fld) : encB (f :: fs) = one f ++ encB fs := by simp [encB]
theorem encB_app (fs gs : List Fld) : encB (fs ++ gs) = encB fs ++ encB gs := by simp [encB]
theorem encB_snoc (fs : List Fld) (f : Fld) : encB (fs ++ [f]) = encB fs ++ one f := by simp [encB]
theorem fault_ok {f : Fld} {last : Int} (h : fault f last = 0) : 1 ≤ f.tag ∧ f.tag ≤ 31 ∧ last < f.tag ∧ (f.text = true → 0 < f.bytes.length ∧ f.bytes.length ≤ 200) ∧ (f.text = false → 0 < f.num) := by
  unfold fault at h
  split at h
  · cases h
  split at h
  · cases h
  split at h
  · rename_i h3
    split at h
    · cases h
    split at h
    · cases h
    exact ⟨by omega, by omega, by omega, fun _ => by omega, fun h4 => by rw [h3] at h4; cases h4⟩
  · rename_i h3
    split at h
    · cases h
    exact ⟨by omega, by omega, by omega, fun h4 => absurd h4 h3, fun _ => by omega⟩
theorem fault_of {f : Fld} {last : Int} (h1 : 1 ≤ f.tag) (h2 : f.tag ≤ 31) (h3 : last < f.tag) (h4 : f.text = true → 0 < f.bytes.length ∧ f.bytes.length ≤ 200) (h5 : f.text = false → 0 < f.num) : fault f last = 0 := by
  unfold fault
  rw [if_neg (by omega), if_neg (by omega)]
  split
  · rename_i h; have := h4 h; rw [if_neg (by omega), if_neg (by omega)]
  · rename_i h; have := h5 (by simpa using h); rw [if_neg (by omega)]
theorem one_len {f : Fld} {last : Int} (hw : f.wf) (h : fault f last = 0) : (one f).length ≤ 220 ∧ 1 < (one f).length := by
  obtain ⟨h1, h2, _, h4, h5⟩ := fault_ok h
  unfold one
  have p1 := venc_pos (f.tag.toNat * 2)
  have p2 := venc_pos (f.tag.toNat * 2 + 1)
  have p3 := venc_pos f.num
  have p4 := venc_pos f.bytes.length
  have q1 := venc_len10 (f.tag.toNat * 2) (by omega)
  have q2 := venc_len10 (f.tag.toNat * 2 + 1) (by omega)
  have q3 := venc_len10 f.num hw.2.2
  split
  · rename_i h
    have := h4 h
    have q4 := venc_len10 f.bytes.length (by omega)
    simp only [List.length_append]
    omega
  · simp only [List.length_append]
    omega
theorem faults_app (last : Int) (fs gs : List Fld) : faults last (fs ++ gs) = if faults last fs ≠ 0 then faults last fs else faults (if fs = [] then last else lastT fs) gs := by
  induction fs generalizing last with
  | nil => simp [faults]
  | cons f r ih =>
    simp only [List.cons_append, faults]
    by_cases h : fault f last = 0
    · simp only [h, ne_eq, not_true_eq_false, if_false, ih]
      by_cases hr : r = []
      · subst hr; simp [faults, lastT]
      · rw [if_neg hr, if_neg (List.cons_ne_nil _ _)]
        have : lastT (f :: r) = lastT r := by
          unfold lastT
          rw [List.getLast?_cons]
          cases hh : r.getLast? with
          | none => simp at hh; exact absurd hh hr
          | some x => simp
        rw [this]
    · simp [h]
theorem faults_snoc {fs : List Fld} {f : Fld} (h : faults 0 fs = 0) : faults 0 (fs ++ [f]) = fault f (lastT fs) := by
  rw [faults_app, if_neg (by simp [h])]
  have : (if fs = [] then (0 : Int) else lastT fs) = lastT fs := by
    split
    · rename_i h; subst h; rfl
    · rfl
  rw [this]
  simp only [faults]
  split
  · rfl
  · rename_i h; simpa using Eq.symm (by simpa using h)
theorem faults_bad {fs gs : List Fld} (h : faults 0 fs ≠ 0) : faults 0 (fs ++ gs) = faults 0 fs := by
  rw [faults_app, if_pos h]
theorem take_snocF (l : List Fld) (k : Nat) (h : k < l.length) : l.take (k + 1) = l.take k ++ [l[k]] := List.take_succ_eq_append_getElem h
theorem faults_take {fs : List Fld} {k : Nat} (hk : k < fs.length) (h0 : faults 0 (fs.take k) = 0) (h1 : fault fs[k] (lastT (fs.take k)) ≠ 0) : faults 0 fs = fault fs[k] (lastT (fs.take k)) := by
  have h2 : fs = fs.take (k + 1) ++ fs.drop (k + 1) := (List.take_append_drop _ _).symm
  have h3 : faults 0 (fs.take (k + 1)) = fault fs[k] (lastT (fs.take k)) := by rw [take_snocF fs k hk, faults_snoc h0]
  have h4 := faults_bad (fs := fs.take (k + 1)) (gs := fs.drop (k + 1)) (by rw [h3]; exact h1)
  rw [← h2, h3] at h4
  exact h4
/-- Fields without a fault: their tags rise, so they are few and their bytes are bounded. -/
theorem faults_bound (fs : List Fld) (hw : FWf fs) (h : faults 0 fs = 0) : (fs.length : Int) ≤ lastT fs ∧ lastT fs ≤ 31 ∧ (encB fs).length ≤ 220 * fs.length := by
  have key : ∀ (n : Nat) (fs : List Fld), fs.length = n → FWf fs → faults 0 fs = 0 → (fs.length : Int) ≤ lastT fs ∧ lastT fs ≤ 31 ∧ (encB fs).length ≤ 220 * fs.length := by
    intro n
    induction n with
    | zero =>
      intro fs hl _ _
      have := List.eq_nil_of_length_eq_zero hl
      subst this
      simp [lastT, encB]
    | succ n ih =>
      intro fs hl hw h
      have hk : n < fs.length := by omega
      have e : fs = fs.take n ++ [fs[n]] := by rw [← take_snocF fs n hk, List.take_of_length_le (by omega)]
      have h0 : faults 0 (fs.take n) = 0 := by
        by_cases hb : faults 0 (fs.take n) = 0
        · exact hb
        · have := faults_bad (gs := [fs[n]]) hb
          rw [← e, h] at this
          exact this.symm
      have h1 : fault fs[n] (lastT (fs.take n)) = 0 := by
        have := faults_snoc (f := fs[n]) h0
        rw [← e, h] at this
        exact this.symm
      obtain ⟨i1, i2, i3⟩ := ih (fs.take n) (by simp; omega) (fun f hf => hw f (List.mem_of_mem_take hf)) h0
      have h2 := fault_ok h1
      have h3 := one_len (hw fs[n] (List.getElem_mem _)) h1
      have i4 : (List.take n fs).length = n := by simp; omega
      have e1 : lastT fs = fs[n].tag := by
        have := lastT_snoc (fs.take n) fs[n]
        rwa [← e] at this
      have e2 : encB fs = encB (fs.take n) ++ one fs[n] := by
        have := encB_snoc (fs.take n) fs[n]
        rwa [← e] at this
      rw [e1, e2, List.length_append]
      rw [i4] at i1 i3
      omega
  exact key _ fs rfl hw h

/-- The field with which b begins, behind one of the tag last; its bytes; the fault. -/
def next (b : List UInt8) (last : Int) : Fld × Nat × Nat :=
  let k := vdec b
  if k.2.2 ≠ 0 then (noFld, 0, k.2.2)
  else if k.1 < 2 ∨ 63 < k.1 then (noFld, 0, 20)
  else if ((k.1 / 2 : Nat) : Int) ≤ last then (noFld, 0, 21)
  else
    let u := vdec (b.drop k.2.1)
    if u.2.2 ≠ 0 then (noFld, 0, u.2.2)
    else if u.1 = 0 then (noFld, 0, 22)
    else if k.1 % 2 = 0 then (⟨((k.1 / 2 : Nat) : Int), false, u.1, []⟩, k.2.1 + u.2.1, 0)
    else if 200 < u.1 then (noFld, 0, 23)
    else if b.length - k.2.1 - u.2.1 < u.1 then (noFld, 0, 10)
    else (⟨((k.1 / 2 : Nat) : Int), true, 0, (b.drop (k.2.1 + u.2.1)).take u.1⟩, k.2.1 + u.2.1 + u.1, 0)
/-- A field without what means nothing. -/
def Fld.plain (f : Fld) : Prop := (f.text = true → f.num = 0) ∧ (f.text = false → f.bytes = [])
def strip (f : Fld) : Fld := ⟨f.tag, f.text, if f.text = true then 0 else f.num, if f.text = true then f.bytes else []⟩
theorem one_strip (f : Fld) : one (strip f) = one f := by unfold one strip; cases f.text <;> simp
theorem strip_plain {f : Fld} (h : f.plain) : strip f = f := by
  obtain ⟨tag, text, num, bytes⟩ := f
  unfold Fld.plain at h
  cases text <;> simp_all [strip]
theorem next_one {f : Fld} {last : Int} (hw : f.wf) (h : fault f last = 0) (r : List UInt8) : next (one f ++ r) last = (strip f, (one f).length, 0) := by
  obtain ⟨h1, h2, h3, h4, h5⟩ := fault_ok h
  unfold next
  cases ht : f.text with
  | false =>
    have e : one f = venc (f.tag.toNat * 2) ++ venc f.num := by simp [one, ht]
    rw [e, List.append_assoc, vdec_enc _ _ (by omega)]
    simp only [List.drop_left, ne_eq, not_true_eq_false, if_false]
    rw [if_neg (by omega), if_neg (by omega), vdec_enc _ _ hw.2.2]
    simp only [not_true_eq_false, if_false]
    have := h5 ht
    rw [if_neg (by omega), if_pos (by omega)]
    simp only [strip, ht, List.length_append, Prod.mk.injEq, Fld.mk.injEq, and_true, if_false, Bool.false_eq_true]
    simp; omega
  | true =>
    have e : one f = venc (f.tag.toNat * 2 + 1) ++ (venc f.bytes.length ++ f.bytes) := by simp [one, ht]
    have h6 := h4 ht
    rw [e, List.append_assoc, vdec_enc _ _ (by omega)]
    simp only [List.drop_left, ne_eq, not_true_eq_false, if_false]
    rw [if_neg (by omega), if_neg (by omega), List.append_assoc, vdec_enc _ _ (by omega)]
    simp only [not_true_eq_false, if_false]
    rw [if_neg (by omega), if_neg (by omega), if_neg (by omega), if_neg (by simp only [List.length_append]; omega)]
    have hd : List.drop ((venc (f.tag.toNat * 2 + 1)).length + (venc f.bytes.length).length) (venc (f.tag.toNat * 2 + 1) ++ (venc f.bytes.length ++ (f.bytes ++ r))) = f.bytes ++ r := by
      rw [← List.append_assoc, ← List.length_append, List.drop_left]
    rw [hd, List.take_left]
    simp only [strip, ht, List.length_append, Prod.mk.injEq, Fld.mk.injEq, and_true, if_true]
    exact ⟨by omega, by omega⟩
theorem next_inv {b : List UInt8} {last : Int} {f : Fld} {n : Nat} (h : next b last = (f, n, 0)) (hl : 0 ≤ last) : ∃ r, b = one f ++ r ∧ n = (one f).length ∧ f.wf ∧ f.plain ∧ fault f last = 0 := by
  unfold next at h
  simp only at h
  split at h
  · rename_i h1; simp at h; exact absurd h.2.2 h1
  rename_i h1
  split at h
  · simp at h
  rename_i h2
  split at h
  · simp at h
  rename_i h3
  split at h
  · rename_i h4; simp at h; exact absurd h.2.2 h4
  rename_i h4
  obtain ⟨⟨k, n1, e1⟩, hk⟩ : ∃ x, x = vdec b := ⟨_, rfl⟩
  rw [← hk] at h1 h2 h3 h4 h
  simp only [ne_eq, Decidable.not_not] at h1
  subst h1
  obtain ⟨r1, hb1, hn1, hk1⟩ := vdec_inv hk.symm
  have hd : b.drop n1 = r1 := by rw [hb1, hn1, List.drop_left]
  simp only [hd] at h4 h
  obtain ⟨⟨u, n2, e2⟩, hu⟩ : ∃ x, x = vdec r1 := ⟨_, rfl⟩
  rw [← hu] at h4 h
  simp only [ne_eq, Decidable.not_not] at h4
  subst h4
  obtain ⟨r2, hb2, hn2, hu2⟩ := vdec_inv hu.symm
  simp only at h h2 h3
  split at h
  · simp at h
  rename_i h5
  split at h
  · rename_i h6
    simp only [Prod.mk.injEq, and_true] at h
    obtain ⟨rfl, rfl⟩ := h
    have e : one ⟨((k / 2 : Nat) : Int), false, u, []⟩ = venc k ++ venc u := by
      simp only [one, Bool.false_eq_true, if_false]
      congr 2
      omega
    refine ⟨r2, by rw [e, hb1, hb2, List.append_assoc], by rw [e, hn1, hn2, List.length_append], ⟨by dsimp only; omega, by dsimp only; omega, hu2⟩, ⟨(fun h => by cases h), fun _ => rfl⟩, fault_of (by dsimp only; omega) (by dsimp only; omega) (by dsimp only; omega) (fun h => by cases h) (fun _ => by dsimp only; omega)⟩
  · rename_i h6
    split at h
    · simp at h
    rename_i h7
    split at h
    · simp at h
    rename_i h8
    simp only [Prod.mk.injEq, and_true] at h
    obtain ⟨rfl, rfl⟩ := h
    have hr2 : b.drop (n1 + n2) = r2 := by rw [← List.drop_drop, hd, hb2, hn2, List.drop_left]
    have hl2 : u ≤ r2.length := by
      have : b.length = n1 + (n2 + r2.length) := by rw [hb1, hb2, hn1, hn2, List.length_append, List.length_append]
      omega
    have hlen : (List.take u r2).length = u := by simp; omega
    have e : one ⟨((k / 2 : Nat) : Int), true, 0, (b.drop (n1 + n2)).take u⟩ = venc k ++ (venc u ++ r2.take u) := by
      simp only [one, if_true, hr2, hlen]
      congr 2
      omega
    refine ⟨r2.drop u, ?_, ?_, ⟨by dsimp only; omega, by dsimp only; omega, by dsimp only; omega⟩, ⟨fun _ => rfl, (fun h => by cases h)⟩, fault_of (by dsimp only; omega) (by dsimp only; omega) (by dsimp only; omega) (fun _ => ?_) (fun h => by cases h)⟩
    · rw [e, List.append_assoc, List.append_assoc, List.take_append_drop, ← hb2, ← hb1]
    · rw [e, List.length_append, List.length_append, hlen, hn1, hn2]; omega
    · dsimp only
      rw [hr2, hlen]
      omega

theorem next_pos {b : List UInt8} {last : Int} {f : Fld} {n : Nat} (h : next b last = (f, n, 0)) (hl : 0 ≤ last) : 1 < n ∧ n ≤ b.length ∧ last < f.tag ∧ f.tag ≤ 31 := by
  obtain ⟨r, hb, hn, hw, _, hf⟩ := next_inv h hl
  have h1 := one_len hw hf
  have h2 := fault_ok hf
  have := congrArg List.length hb
  rw [List.length_append] at this
  omega
/-- The fields of b from the place at on: a stretch behind one of the tag last, by fuel. -/
def decF : Nat → List UInt8 → Int → Nat → List Fld × Nat × Nat
  | 0, _, _, _ => ([], 0, 0)
  | fuel + 1, b, last, at_ =>
    if b = [] then ([], 0, 0)
    else
      let x := next b last
      if x.2.2 ≠ 0 then ([], at_, x.2.2)
      else
        let y := decF fuel (b.drop x.2.1) x.1.tag (at_ + x.2.1)
        if y.2.2 ≠ 0 then ([], y.2.1, y.2.2) else (x.1 :: y.1, 0, 0)
def dec (b : List UInt8) : List Fld × Nat × Nat := if 1024 < b.length then ([], 0, 24) else decF (b.length + 1) b 0 0
theorem decF_fuel (fuel fuel' : Nat) (b : List UInt8) (last : Int) (at_ : Nat) (hl : 0 ≤ last) (h : b.length < fuel) (h' : b.length < fuel') : decF fuel b last at_ = decF fuel' b last at_ := by
  induction fuel generalizing fuel' b last at_ with
  | zero => omega
  | succ n ih =>
    cases fuel' with
    | zero => omega
    | succ m =>
      simp only [decF]
      split
      · rfl
      split
      · rfl
      rename_i h1 h2
      obtain ⟨⟨f, k, e⟩, hx⟩ : ∃ x, x = next b last := ⟨_, rfl⟩
      rw [← hx] at h2 ⊢
      simp only [ne_eq, Decidable.not_not] at h2
      subst h2
      obtain ⟨p1, p2, p3, p4⟩ := next_pos hx.symm hl
      simp only
      rw [ih m (b.drop k) f.tag (at_ + k) (by omega) (by simp; omega) (by simp; omega)]
/-- Decoding from the place at on. -/
def decA (b : List UInt8) (last : Int) (at_ : Nat) : List Fld × Nat × Nat := decF (b.length + 1) (b.drop at_) last at_
theorem decA_end {b : List UInt8} {last : Int} {at_ : Nat} (h : b.length ≤ at_) : decA b last at_ = ([], 0, 0) := by
  unfold decA decF
  rw [if_pos (List.drop_of_length_le h)]
theorem decA_bad {b : List UInt8} {last : Int} {at_ : Nat} (h : at_ < b.length) (hb : (next (b.drop at_) last).2.2 ≠ 0) : decA b last at_ = ([], at_, (next (b.drop at_) last).2.2) := by
  unfold decA decF
  rw [if_neg (fun hc => by have := congrArg List.length hc; simp at this; omega)]
  simp only
  rw [if_pos hb]
theorem decA_ok {b : List UInt8} {last : Int} {at_ n : Nat} {f : Fld} (hl : 0 ≤ last) (h : at_ < b.length) (hb : next (b.drop at_) last = (f, n, 0)) :
    decA b last at_ = if (decA b f.tag (at_ + n)).2.2 ≠ 0 then ([], (decA b f.tag (at_ + n)).2.1, (decA b f.tag (at_ + n)).2.2) else (f :: (decA b f.tag (at_ + n)).1, 0, 0) := by
  obtain ⟨p1, p2, p3, p4⟩ := next_pos hb hl
  have e : decA b f.tag (at_ + n) = decF b.length ((b.drop at_).drop n) f.tag (at_ + n) := by
    unfold decA
    rw [List.drop_drop]
    exact decF_fuel _ _ _ _ _ (by omega) (by simp; omega) (by simp; omega)
  rw [e]
  unfold decA
  rw [decF]
  rw [if_neg (fun hc => by have := congrArg List.length hc; simp at this; omega), hb]
  simp only [ne_eq, not_true_eq_false, if_false]
theorem dec_eq (b : List UInt8) : dec b = if 1024 < b.length then ([], 0, 24) else decA b 0 0 := by unfold dec decA; simp
theorem decF_form (fuel : Nat) (b : List UInt8) (last : Int) (at_ : Nat) : ((decF fuel b last at_).2.2 ≠ 0 → (decF fuel b last at_).1 = []) ∧ ((decF fuel b last at_).2.2 = 0 → (decF fuel b last at_).2.1 = 0) := by
  cases fuel with
  | zero => simp [decF]
  | succ n =>
    simp only [decF]
    split
    · simp
    split
    · rename_i h; simp only [ne_eq] at h; simp [h]
    split
    · rename_i h; simp only [ne_eq] at h; simp [h]
    · simp
theorem decA_form (b : List UInt8) (last : Int) (at_ : Nat) : ((decA b last at_).2.2 ≠ 0 → (decA b last at_).1 = []) ∧ ((decA b last at_).2.2 = 0 → (decA b last at_).2.1 = 0) := decF_form _ _ _ _
/-- The tag behind the fields fs, which lie behind the tag last. -/
def lastB (last : Int) (fs : List Fld) : Int := if fs = [] then last else lastT fs
theorem lastB_cons (last : Int) (f : Fld) (r : List Fld) : lastB last (f :: r) = lastB f.tag r := by
  unfold lastB
  rw [if_neg (List.cons_ne_nil _ _)]
  cases r with
  | nil => rfl
  | cons g r => simp [lastT, List.getLast?_cons_cons]
/-- What is written is read, and the reading goes on behind it. -/
theorem decA_enc (pre : List UInt8) (fs : List Fld) (post : List UInt8) (last : Int) (hl : 0 ≤ last) (hw : FWf fs) (h : faults last fs = 0) :
    decA (pre ++ (encB fs ++ post)) last pre.length =
      if (decA (pre ++ (encB fs ++ post)) (lastB last fs) (pre.length + (encB fs).length)).2.2 ≠ 0 then decA (pre ++ (encB fs ++ post)) (lastB last fs) (pre.length + (encB fs).length) else
      (fs.map strip ++ (decA (pre ++ (encB fs ++ post)) (lastB last fs) (pre.length + (encB fs).length)).1, 0, 0) := by
  induction fs generalizing pre last with
  | nil =>
    have hF := decA_form (pre ++ (encB [] ++ post)) last pre.length
    simp only [encB_nil, List.nil_append, lastB, if_true, List.length_nil, Nat.add_zero, List.map_nil] at hF ⊢
    generalize decA (pre ++ post) last pre.length = y at hF ⊢
    obtain ⟨fs, a, e⟩ := y
    by_cases he : e = 0
    · subst he; simp at hF ⊢; exact hF
    · simp [he]
  | cons f r ih =>
    have hf : fault f last = 0 := by
      simp only [faults] at h
      split at h
      · omega
      · omega
    have hr : faults f.tag r = 0 := by
      simp only [faults] at h
      rw [if_neg (by omega)] at h
      exact h
    have hfw := hw f (List.mem_cons_self ..)
    have ho := one_len hfw hf
    have ht := fault_ok hf
    have e1 : pre ++ (encB (f :: r) ++ post) = (pre ++ one f) ++ (encB r ++ post) := by rw [encB_cons]; simp only [List.append_assoc]
    have hn : next ((pre ++ (encB (f :: r) ++ post)).drop pre.length) last = (strip f, (one f).length, 0) := by
      rw [List.drop_left, encB_cons, List.append_assoc]
      exact next_one hfw hf _
    have hlt : pre.length < (pre ++ (encB (f :: r) ++ post)).length := by
      rw [encB_cons]; simp only [List.length_append]; omega
    rw [decA_ok hl hlt hn]
    have i := ih (pre ++ one f) f.tag (by omega) (fun g hg => hw g (List.mem_cons_of_mem _ hg)) hr
    rw [← e1] at i
    have e2 : (pre ++ one f).length = pre.length + (one f).length := List.length_append
    have e3 : (strip f).tag = f.tag := rfl
    have e5 : pre.length + (one f).length + (encB r).length = pre.length + (encB (f :: r)).length := by rw [encB_cons, List.length_append]; omega
    rw [e2, e5, ← lastB_cons last f r] at i
    rw [e3, i]
    have hF := decA_form (pre ++ (encB (f :: r) ++ post)) (lastB last (f :: r)) (pre.length + (encB (f :: r)).length)
    generalize decA (pre ++ (encB (f :: r) ++ post)) (lastB last (f :: r)) (pre.length + (encB (f :: r)).length) = y at hF ⊢
    obtain ⟨ys, ya, ye⟩ := y
    by_cases he : ye = 0
    · subst he; simp
    · simp [he] at hF ⊢
      exact hF
/-- What is read is what would be written. -/
theorem decA_inv (N : Nat) (b : List UInt8) (last : Int) (at_ : Nat) (hN : b.length - at_ = N) (hat : at_ ≤ b.length) (hl : 0 ≤ last) (h : (decA b last at_).2.2 = 0) :
    encB (decA b last at_).1 = b.drop at_ ∧ faults last (decA b last at_).1 = 0 ∧ FWf (decA b last at_).1 ∧ ∀ f ∈ (decA b last at_).1, f.plain := by
  induction N using Nat.strongRecOn generalizing last at_ with
  | _ N ih =>
    by_cases hlt : at_ < b.length
    · obtain ⟨⟨f, n, e⟩, hx⟩ : ∃ x, x = next (b.drop at_) last := ⟨_, rfl⟩
      by_cases he : e = 0
      · subst he
        obtain ⟨p1, p2, p3, p4⟩ := next_pos hx.symm hl
        simp only [List.length_drop] at p2
        have ho := decA_ok hl hlt hx.symm
        by_cases hb : (decA b f.tag (at_ + n)).2.2 = 0
        · rw [if_neg (by simp [hb])] at ho
          obtain ⟨i1, i2, i3, i4⟩ := ih (b.length - (at_ + n)) (by omega) f.tag (at_ + n) rfl (by omega) (by omega) hb
          obtain ⟨r, hr, hn, hw, hp, hf⟩ := next_inv hx.symm hl
          rw [ho]
          have hd : b.drop (at_ + n) = r := by rw [← List.drop_drop, hr, hn, List.drop_left]
          refine ⟨?_, ?_, ?_, ?_⟩
          · rw [encB_cons, i1, hd, ← hr]
          · simp only [faults, hf, ne_eq, not_true_eq_false, if_false]; exact i2
          · intro g hg
            rcases List.mem_cons.1 hg with rfl | hg
            · exact hw
            · exact i3 g hg
          · intro g hg
            rcases List.mem_cons.1 hg with rfl | hg
            · exact hp
            · exact i4 g hg
        · rw [if_pos hb] at ho
          rw [ho] at h
          exact absurd h hb
      · have := decA_bad (last := last) hlt (by rw [← hx]; exact he)
        rw [this, ← hx] at h
        exact absurd h he
    · rw [decA_end (by omega)]
      refine ⟨?_, rfl, fun f hf => by simp at hf, fun f hf => by simp at hf⟩
      rw [List.drop_of_length_le (by omega)]; rfl
theorem decA_place (N : Nat) (b : List UInt8) (last : Int) (at_ : Nat) (hN : b.length - at_ = N) (hat : at_ ≤ b.length) (hl : 0 ≤ last) : (decA b last at_).2.1 ≤ b.length := by
  induction N using Nat.strongRecOn generalizing last at_ with
  | _ N ih =>
    by_cases hlt : at_ < b.length
    · obtain ⟨⟨f, n, e⟩, hx⟩ : ∃ x, x = next (b.drop at_) last := ⟨_, rfl⟩
      by_cases he : e = 0
      · subst he
        obtain ⟨p1, p2, p3, p4⟩ := next_pos hx.symm hl
        simp only [List.length_drop] at p2
        have ho := decA_ok hl hlt hx.symm
        have i := ih (b.length - (at_ + n)) (by omega) f.tag (at_ + n) rfl (by omega) (by omega)
        rw [ho]
        split
        · exact i
        · exact Nat.zero_le _
      · have := decA_bad (last := last) hlt (by rw [← hx]; exact he)
        rw [this]
        exact hat
    · rw [decA_end (by omega)]
      exact Nat.zero_le _
theorem map_strip {fs : List Fld} (h : ∀ f ∈ fs, f.plain) : fs.map strip = fs := by
  induction fs with
  | nil => rfl
  | cons f r ih => rw [List.map_cons, strip_plain (h f (List.mem_cons_self ..)), ih fun g hg => h g (List.mem_cons_of_mem _ hg)]
theorem dec_enc {fs : List Fld} (hw : FWf fs) (h : encE fs = 0) : dec (encR fs) = (fs.map strip, 0, 0) := by
  unfold encR
  rw [if_pos h]
  unfold encE at h
  split at h
  · rename_i h1; exact absurd h h1
  rename_i h1
  split at h
  · cases h
  rename_i h2
  rw [dec_eq, if_neg h2]
  have := decA_enc [] fs [] 0 (by omega) hw (by simpa using h1)
  simp only [List.nil_append, List.append_nil, List.length_nil, Nat.zero_add] at this
  rw [this, decA_end (by omega)]
  simp
theorem dec_inv {b : List UInt8} (h : (dec b).2.2 = 0) : encR (dec b).1 = b ∧ encE (dec b).1 = 0 ∧ FWf (dec b).1 ∧ (∀ f ∈ (dec b).1, f.plain) ∧ (dec b).2.1 = 0 ∧ encB (dec b).1 = b ∧ faults 0 (dec b).1 = 0 ∧ b.length ≤ 1024 := by
  rw [dec_eq] at h ⊢
  split at h
  · cases h
  rename_i h1
  rw [if_neg h1]
  obtain ⟨i1, i2, i3, i4⟩ := decA_inv _ b 0 0 rfl (by omega) (by omega) h
  rw [List.drop_zero] at i1
  have hE : encE (decA b 0 0).1 = 0 := by
    unfold encE
    rw [i2, i1, if_neg (by simp), if_neg h1]
  exact ⟨by unfold encR; rw [if_pos hE, i1], hE, i3, i4, (decA_form b 0 0).2 h, i1, i2, by omega⟩
theorem dec_place (b : List UInt8) : (dec b).2.1 ≤ b.length := by
  rw [dec_eq]
  split
  · exact Nat.zero_le _
  · exact decA_place _ b 0 0 rfl (by omega) (by omega)
theorem lastB0 (fs : List Fld) : lastB 0 fs = lastT fs := by
  unfold lastB
  split
  · rename_i h; subst h; rfl
  · rfl
/-- Two records behind each other. -/
theorem dec_pieces {a b : List UInt8} (ha : (dec a).2.2 = 0) (hb : (dec b).2.2 = 0) (f : Fld) (r : List Fld) (hf : (dec b).1 = f :: r) (_hn : (dec a).1 ≠ []) :
    dec (a ++ b) = if 1024 < a.length + b.length then ([], 0, 24) else if f.tag ≤ lastT (dec a).1 then ([], a.length, 21) else ((dec a).1 ++ (dec b).1, 0, 0) := by
  obtain ⟨_, _, a3, a4, _, a6, a7, _⟩ := dec_inv ha
  obtain ⟨_, _, b3, b4, _, b6, b7, _⟩ := dec_inv hb
  rw [dec_eq, List.length_append]
  split
  · rfl
  have hla : 0 ≤ lastT (dec a).1 := by have := (faults_bound _ a3 a7).1; omega
  have h1 := decA_enc [] (dec a).1 b 0 (by omega) a3 a7
  simp only [List.nil_append, List.length_nil, Nat.zero_add, a6, lastB0] at h1
  have hfb : fault f 0 = 0 := by
    rw [hf] at b7
    simp only [faults] at b7
    split at b7
    · omega
    · omega
  have hfw : f.wf := b3 f (by rw [hf]; exact List.mem_cons_self ..)
  have hb1 : b = one f ++ encB r := by rw [← b6, hf, encB_cons]
  have hlt : a.length < (a ++ b).length := by
    have := one_len hfw hfb
    rw [hb1]; simp only [List.length_append]; omega
  have hk := fault_ok hfb
  by_cases ht : f.tag ≤ lastT (dec a).1
  · rw [if_pos ht]
    have hnx : (next ((a ++ b).drop a.length) (lastT (dec a).1)).2.2 = 21 := by
      rw [List.drop_left, hb1]
      unfold next
      unfold one
      split
      · rw [List.append_assoc, vdec_enc _ _ (by omega)]
        simp only [ne_eq, not_true_eq_false, if_false]
        rw [if_neg (by omega), if_pos (by omega)]
      · rw [List.append_assoc, vdec_enc _ _ (by omega)]
        simp only [ne_eq, not_true_eq_false, if_false]
        rw [if_neg (by omega), if_pos (by omega)]
    have h2 := decA_bad hlt (by rw [hnx]; decide)
    rw [hnx] at h2
    rw [h2] at h1
    simpa using h1
  · rw [if_neg ht]
    have hfl : faults (lastT (dec a).1) (dec b).1 = 0 := by
      rw [hf] at b7 ⊢
      simp only [faults] at b7 ⊢
      have h3 : fault f (lastT (dec a).1) = 0 := fault_of hk.1 hk.2.1 (by omega) hk.2.2.2.1 hk.2.2.2.2
      rw [if_neg (by omega)] at b7
      rw [if_neg (by omega)]
      exact b7
    have h3 := decA_enc a (dec b).1 [] (lastT (dec a).1) hla b3 hfl
    simp only [List.append_nil, b6] at h3
    rw [decA_end (b := a ++ b) (at_ := a.length + b.length) (by simp)] at h3
    simp only [ne_eq, not_true_eq_false, if_false, List.append_nil, map_strip b4] at h3
    rw [h3] at h1
    simpa [map_strip a4] using h1
end Go.Proofs.YtjajbbgebblalaaGreatDoor

namespace Go.Proofs.YtjajbbgebblalaaGreatDoor
open Go.RowKit
set_option linter.unusedVariables false
set_option linter.unusedSimpArgs false
/-- A call of a writer, as the law's script has it. -/
structure Pt where
  k : Int
  tag : Int
  v : Int
  b : List UInt8
def toU (v : Int) : Nat := (v % 18446744073709551616).toNat
def zig (v : Int) : Nat := if v < 0 then (-2 * v - 1).toNat else (2 * v).toNat
theorem toU_lt (v : Int) : toU v < 18446744073709551616 := by unfold toU; omega
theorem zig_lt {v : Int} (h1 : -9223372036854775808 ≤ v) (h2 : v ≤ 9223372036854775807) : zig v < 18446744073709551616 := by unfold zig; split <;> omega
/-- One field more: kept, left out, or the first fault. -/
def addW (s : List Fld × Nat) (f : Fld) : List Fld × Nat :=
  if s.2 ≠ 0 then s else if fault f (lastT s.1) = 0 then (s.1 ++ [f], 0) else if fault f (lastT s.1) = 22 then s else (s.1, fault f (lastT s.1))
def Kept (s : List Fld × Nat) : Prop := FWf s.1 ∧ faults 0 s.1 = 0
theorem kept_nil : Kept ([], 0) := ⟨fun f hf => by simp at hf, rfl⟩
theorem addW_kept {s : List Fld × Nat} {f : Fld} (h : Kept s) (hf : f.wf) : Kept (addW s f) := by
  unfold addW
  split
  · exact h
  · split
    · rename_i h1
      refine ⟨fun g hg => ?_, by rw [faults_snoc h.2]; exact h1⟩
      simp at hg
      rcases hg with hg | rfl
      · exact h.1 g hg
      · exact hf
    · split
      · exact h
      · exact ⟨h.1, h.2⟩
theorem Kept.len {s : List Fld × Nat} (h : Kept s) : s.1.length ≤ 31 := by
  have := faults_bound s.1 h.1 h.2
  omega
theorem addW_bad {s : List Fld × Nat} (f : Fld) (h : s.2 ≠ 0) : addW s f = s := by unfold addW; rw [if_pos h]
theorem addW_ok {l : List Fld} {f : Fld} (h : fault f (lastT l) = 0) : addW (l, 0) f = (l ++ [f], 0) := by unfold addW; rw [if_neg (by simp), if_pos h]
theorem addW_zero {l : List Fld} {f : Fld} (h : fault f (lastT l) = 22) : addW (l, 0) f = (l, 0) := by unfold addW; rw [if_neg (by simp), if_neg (by simp [h]), if_pos h]
theorem addW_fault {l : List Fld} {f : Fld} (h : fault f (lastT l) ≠ 0) (h2 : fault f (lastT l) ≠ 22) : addW (l, 0) f = (l, fault f (lastT l)) := by unfold addW; rw [if_neg (by simp), if_neg h, if_neg h2]
theorem fault_small (f : Fld) (last : Int) : fault f last ≤ 24 := by
  unfold fault
  repeat' split
  all_goals omega
end Go.Proofs.YtjajbbgebblalaaGreatDoor

namespace Go.Proofs.YtjajbbgebblalaaGreatDoor
open Go.RowKit
set_option linter.unusedVariables false
set_option linter.unusedSimpArgs false
structure Ln where
  item : Int
  price : Int
  qty : Int
  shipped : Int
structure St where
  order : Int
  status : Int
  prior : Int
  cur : Int
  tax : Int
  lines : List Ln
  paid : Int
  refunded : Int
  events : Int
  refused : Int
  stamp : Int
  who : ByteArray
structure Ev where
  kind : Int
  order : Int
  item : Int
  qty : Int
  price : Int
  cur : Int
  tax : Int
  who : ByteArray
  stamp : Int
  note : ByteArray
def net (ls : List Ln) : Int := (ls.map fun l => l.qty * l.price).sum
def taxOf (n t : Int) : Int := n * t / 10000
def due (s : St) : Int := net s.lines + taxOf (net s.lines) s.tax
def plainB (who : ByteArray) : Bool := who.data.toList.all fun c => c == 45 || (48 ≤ c && c ≤ 57) || (97 ≤ c && c ≤ 122)
def namedB (who : ByteArray) : Bool := decide (who.size ≤ 16) && plainB who
def wi (x lo hi : Int) : Bool := decide (lo ≤ x ∧ x ≤ hi)
theorem wi_iff {x lo hi : Int} : wi x lo hi = true ↔ lo ≤ x ∧ x ≤ hi := by simp [wi]
/-- What is wrong with an event of version 5. -/
def check5 (e : Ev) : Nat :=
  if e.kind < 1 ∨ 10 < e.kind then 31
  else if 16 < e.who.size ∨ 120 < e.note.size then 24
  else if wi e.order 1 1099511627776 && wi e.item 0 65535 && wi e.qty 0 10000 && wi e.price 0 100000000 && wi e.cur 0 3 && wi e.tax 0 5000 && plainB e.who && wi e.stamp 0 1099511627776 then 0 else 32
def lnB (l : Ln) : Bool := wi l.item 0 65535 && wi l.price 0 100000000 && wi l.qty 1 100000 && wi l.shipped 0 l.qty
/-- The lines behind one of the item before: within their bounds, and they rise. -/
def risesB : Int → List Ln → Bool
  | _, [] => true
  | b, l :: r => decide (b < l.item) && lnB l && risesB l.item r
def linedB (ls : List Ln) : Bool := decide (ls.length ≤ 16) && risesB (-1) ls
def boundedB (s : St) : Bool :=
  wi s.order 1 1099511627776 && wi s.status 0 5 && wi s.cur 0 3 && wi s.tax 0 5000 && linedB s.lines && wi s.refunded 0 s.paid && wi s.events 0 1099511627776 && wi s.refused 0 s.events && wi s.stamp 0 1099511627776 && namedB s.who
def noneB (ls : List Ln) : Bool := ls.all fun l => decide (l.shipped = 0)
def allB (ls : List Ln) : Bool := ls.all fun l => decide (l.shipped = l.qty)
def fullB (s : St) : Bool := decide (s.paid = due s ∧ 0 < s.paid)
def standsAt (s : St) : Int := if s.status = 2 then s.prior else s.status
def standsB (s : St) (at_ : Int) : Bool :=
  if at_ = 0 then decide (s.lines = []) && decide (s.cur = 0 ∧ s.tax = 0 ∧ s.events = s.refused ∧ s.stamp = 0) && decide (s.who.size = 0)
  else if at_ = 1 then noneB s.lines && !fullB s && decide (s.refunded = 0)
  else if at_ = 3 then fullB s && !allB s.lines
  else if at_ = 4 then fullB s && allB s.lines
  else noneB s.lines
def priorB (s : St) : Bool := if s.status = 2 then decide (s.prior = 1 ∨ s.prior = 3) else decide (s.prior = 0)
def validB (s : St) : Bool := boundedB s && decide (s.paid ≤ due s) && priorB s && standsB s (standsAt s)
/-- Whether an order that stands so has a use for the kind. -/
def useB (s : St) (k : Int) : Bool :=
  if k = 1 then decide (s.status = 0)
  else if k = 2 ∨ k = 6 then decide (s.status = 1 ∧ s.paid = 0)
  else if k = 3 then decide (s.status = 1)
  else if k = 4 ∨ k = 10 then decide (s.status = 3)
  else if k = 7 then decide (s.status = 3 ∨ s.status = 4 ∨ s.status = 5)
  else if k = 5 then decide (s.status = 1) || (decide (s.status = 2 ∨ s.status = 3) && noneB s.lines)
  else if k = 8 then decide (s.status = 1 ∨ s.status = 3)
  else decide (k = 9 ∧ s.status = 2)
/-- The line of an item. -/
def lineOf (ls : List Ln) (item : Int) : Option Ln := ls.find? fun l => decide (l.item = item)
def judge (s : St) (e : Ev) : Nat :=
  if validB s = false ∨ check5 e ≠ 0 ∨ s.events = 1099511627776 then 1
  else if e.order ≠ s.order then 2
  else if s.status = 0 ∧ e.kind ≠ 1 then 3
  else if s.status ≠ 0 ∧ e.kind = 1 then 4
  else if useB s e.kind = false then 5
  else if ((e.kind = 2 ∨ e.kind = 6 ∨ e.kind = 4) ∧ e.qty = 0) ∨ ((e.kind = 3 ∨ e.kind = 7) ∧ e.price = 0) then 6
  else match lineOf s.lines e.item with
    | none =>
      if e.kind = 6 ∨ e.kind = 4 then 7
      else if e.kind = 2 ∧ s.lines.length = 16 then 9
      else if (e.kind = 3 ∧ due s < s.paid + e.price) ∨ (e.kind = 7 ∧ s.paid < s.refunded + e.price) then 10 else 0
    | some l =>
      if e.kind = 2 ∧ l.price ≠ e.price then 8
      else if (e.kind = 2 ∧ 100000 < l.qty + e.qty) ∨ (e.kind = 6 ∧ l.qty < e.qty) ∨ (e.kind = 4 ∧ l.qty - l.shipped < e.qty) then 10
      else if (e.kind = 3 ∧ due s < s.paid + e.price) ∨ (e.kind = 7 ∧ s.paid < s.refunded + e.price) then 10 else 0
/-- q more of an item. -/
def more (item price q : Int) : List Ln → List Ln
  | [] => [⟨item, price, q, 0⟩]
  | l :: r => if item < l.item then ⟨item, price, q, 0⟩ :: l :: r
    else if l.item = item then (if 0 < l.qty + q then ⟨l.item, l.price, l.qty + q, l.shipped⟩ :: r else r)
    else l :: more item price q r
def shipL (item q : Int) (ls : List Ln) : List Ln := ls.map fun l => if l.item = item then ⟨l.item, l.price, l.qty, l.shipped + q⟩ else l
def clearL (ls : List Ln) : List Ln := ls.map fun l => ⟨l.item, l.price, l.qty, l.qty⟩
def rule (s : St) (e : Ev) : St :=
  if e.kind = 1 then { s with status := 1, cur := e.cur, tax := e.tax }
  else if e.kind = 2 then { s with lines := more e.item e.price e.qty s.lines }
  else if e.kind = 6 then { s with lines := more e.item e.price (-e.qty) s.lines }
  else if e.kind = 3 then { s with paid := s.paid + e.price, status := if s.paid + e.price = due s then 3 else s.status }
  else if e.kind = 4 then { s with lines := shipL e.item e.qty s.lines, status := if allB (shipL e.item e.qty s.lines) = true then 4 else s.status }
  else if e.kind = 10 then { s with lines := clearL s.lines, status := 4 }
  else if e.kind = 7 then { s with refunded := s.refunded + e.price }
  else if e.kind = 5 then { s with status := 5, prior := 0 }
  else if e.kind = 8 then { s with prior := s.status, status := 2 }
  else if e.kind = 9 then { s with status := s.prior, prior := 0 }
  else s
def bump (s : St) (e : Ev) : St := { s with events := s.events + 1, stamp := if s.stamp < e.stamp then e.stamp else s.stamp, who := if e.who.size = 0 then s.who else e.who }
def apply (s : St) (e : Ev) : St × Nat :=
  if judge s e = 1 ∨ judge s e = 2 then (s, judge s e)
  else if judge s e ≠ 0 then ({ s with events := s.events + 1, refused := s.refused + 1 }, judge s e)
  else (rule (bump s e) e, 0)
def fold (s : St) (es : List Ev) : St := es.foldl (fun s e => (apply s e).1) s
theorem and_t {a b : Bool} : (a && b) = true ↔ a = true ∧ b = true := by simp
theorem lnB_iff {l : Ln} : lnB l = true ↔ (0 ≤ l.item ∧ l.item ≤ 65535) ∧ (0 ≤ l.price ∧ l.price ≤ 100000000) ∧ (1 ≤ l.qty ∧ l.qty ≤ 100000) ∧ 0 ≤ l.shipped ∧ l.shipped ≤ l.qty := by
  simp only [lnB, and_t, wi_iff]
  constructor
  · rintro ⟨⟨⟨h1, h2⟩, h3⟩, h4⟩; exact ⟨h1, h2, h3, h4⟩
  · rintro ⟨h1, h2, h3, h4⟩; exact ⟨⟨⟨h1, h2⟩, h3⟩, h4⟩
theorem rises_cons {b : Int} {l : Ln} {r : List Ln} : risesB b (l :: r) = true ↔ b < l.item ∧ lnB l = true ∧ risesB l.item r = true := by
  simp only [risesB, and_t, decide_eq_true_eq]
  constructor
  · rintro ⟨⟨h1, h2⟩, h3⟩; exact ⟨h1, h2, h3⟩
  · rintro ⟨h1, h2, h3⟩; exact ⟨⟨h1, h2⟩, h3⟩
theorem rises_mem {b : Int} {ls : List Ln} (h : risesB b ls = true) : ∀ l ∈ ls, lnB l = true ∧ b < l.item := by
  induction ls generalizing b with
  | nil => intro l hl; cases hl
  | cons x r ih =>
    obtain ⟨h1, h2, h3⟩ := rises_cons.1 h
    intro l hl
    rcases List.mem_cons.1 hl with rfl | hl
    · exact ⟨h2, h1⟩
    · have := ih h3 l hl; exact ⟨this.1, by omega⟩
theorem rises_weak {b b' : Int} {ls : List Ln} (h : risesB b ls = true) (hb : b' ≤ b) : risesB b' ls = true := by
  cases ls with
  | nil => rfl
  | cons x r =>
    obtain ⟨h1, h2, h3⟩ := rises_cons.1 h
    exact rises_cons.2 ⟨by omega, h2, h3⟩
theorem net_cons (l : Ln) (r : List Ln) : net (l :: r) = l.qty * l.price + net r := by simp [net]
theorem net_bound {ls : List Ln} (h : ∀ l ∈ ls, lnB l = true) : 0 ≤ net ls ∧ net ls ≤ 10000000000000 * ls.length := by
  induction ls with
  | nil => simp [net]
  | cons l r ih =>
    obtain ⟨i1, i2⟩ := ih fun x hx => h x (List.mem_cons_of_mem _ hx)
    obtain ⟨_, ⟨p1, p2⟩, ⟨q1, q2⟩, _⟩ := lnB_iff.1 (h l (List.mem_cons_self ..))
    rw [net_cons]
    have h1 : 0 ≤ l.qty * l.price := Int.mul_nonneg (by omega) p1
    have h2 : l.qty * l.price ≤ 100000 * 100000000 := Int.mul_le_mul q2 p2 p1 (by omega)
    simp only [List.length_cons]
    omega
theorem tax_bound {n t : Int} (hn : 0 ≤ n) (h0 : 0 ≤ t) (h1 : t ≤ 5000) : 0 ≤ taxOf n t ∧ taxOf n t ≤ n := by
  unfold taxOf
  have h2 : 0 ≤ n * t := Int.mul_nonneg hn h0
  have h3 : n * t ≤ n * 5000 := Int.mul_le_mul_of_nonneg_left h1 hn
  omega
/-- What makes 'more' right. -/
def MoreOk (item price q : Int) (ls : List Ln) : Prop := 0 ≤ item ∧ item ≤ 65535 ∧ 0 ≤ price ∧ price ≤ 100000000 ∧ (∀ l ∈ ls, l.item = item → l.shipped = 0 ∧ l.qty + q ≤ 100000 ∧ 0 ≤ l.qty + q) ∧ ((∀ l ∈ ls, l.item ≠ item) → 1 ≤ q ∧ q ≤ 100000)
theorem more_rises {item price q b : Int} {ls : List Ln} (h : risesB b ls = true) (hb : b < item) (ho : MoreOk item price q ls) : risesB b (more item price q ls) = true := by
  induction ls generalizing b with
  | nil =>
    obtain ⟨h1, h2, h3, h4, _, h6⟩ := ho
    have := h6 (fun l hl => by cases hl)
    exact rises_cons.2 ⟨hb, lnB_iff.2 ⟨⟨h1, h2⟩, ⟨h3, h4⟩, this, by dsimp only; omega⟩, rfl⟩
  | cons l r ih =>
    obtain ⟨r1, r2, r3⟩ := rises_cons.1 h
    obtain ⟨h1, h2, h3, h4, h5, h6⟩ := ho
    unfold more
    by_cases hlt : item < l.item
    · rw [if_pos hlt]
      have hn : ∀ x ∈ l :: r, x.item ≠ item := by
        intro x hx
        rcases List.mem_cons.1 hx with rfl | hx
        · omega
        · have := (rises_mem r3 x hx).2; omega
      have hq := h6 hn
      exact rises_cons.2 ⟨hb, lnB_iff.2 ⟨⟨h1, h2⟩, ⟨h3, h4⟩, hq, by dsimp only; omega⟩, rises_cons.2 ⟨hlt, r2, r3⟩⟩
    · rw [if_neg hlt]
      by_cases heq : l.item = item
      · rw [if_pos heq]
        obtain ⟨k1, k2, k3⟩ := h5 l (List.mem_cons_self ..) heq
        obtain ⟨m1, m2, m3, m4⟩ := lnB_iff.1 r2
        by_cases hq : 0 < l.qty + q
        · rw [if_pos hq]
          exact rises_cons.2 ⟨r1, lnB_iff.2 ⟨m1, m2, ⟨by dsimp only; omega, k2⟩, by dsimp only; omega⟩, r3⟩
        · rw [if_neg hq]
          exact rises_weak r3 (by omega)
      · rw [if_neg heq]
        refine rises_cons.2 ⟨r1, r2, ih r3 (by omega) ⟨h1, h2, h3, h4, fun x hx => h5 x (List.mem_cons_of_mem _ hx), fun hn => h6 ?_⟩⟩
        intro x hx
        rcases List.mem_cons.1 hx with rfl | hx
        · exact heq
        · exact hn x hx
theorem more_len (item price q : Int) (ls : List Ln) : (more item price q ls).length ≤ ls.length + 1 ∧ ((∃ l ∈ ls, l.item = item) → (∀ b, risesB b ls = true → (more item price q ls).length ≤ ls.length)) := by
  induction ls with
  | nil => simp [more]
  | cons l r ih =>
    unfold more
    by_cases hlt : item < l.item
    · rw [if_pos hlt]
      refine ⟨by simp, fun ⟨x, hx, he⟩ b hr => ?_⟩
      obtain ⟨_, _, r3⟩ := rises_cons.1 hr
      rcases List.mem_cons.1 hx with rfl | hx
      · omega
      · have := (rises_mem r3 x hx).2; omega
    · rw [if_neg hlt]
      by_cases heq : l.item = item
      · rw [if_pos heq]
        split <;> exact ⟨by simp only [List.length_cons]; omega, fun _ _ _ => by simp only [List.length_cons]; omega⟩
      · rw [if_neg heq]
        refine ⟨by simp only [List.length_cons]; omega, fun ⟨x, hx, he⟩ b hr => ?_⟩
        obtain ⟨_, _, r3⟩ := rises_cons.1 hr
        simp only [List.length_cons]
        rcases List.mem_cons.1 hx with rfl | hx
        · exact absurd he heq
        · have := ih.2 ⟨x, hx, he⟩ _ r3; omega
theorem more_none {item price q : Int} {ls : List Ln} (h : noneB ls = true) : noneB (more item price q ls) = true := by
  induction ls with
  | nil => simp [more, noneB]
  | cons l r ih =>
    simp only [noneB, List.all_cons, and_t, decide_eq_true_eq] at h
    unfold more
    split
    · simp only [noneB, List.all_cons, and_t, decide_eq_true_eq]; exact ⟨trivial, h.1, h.2⟩
    · split
      · split
        · simp only [noneB, List.all_cons, and_t, decide_eq_true_eq]; exact h
        · exact h.2
      · simp only [noneB, List.all_cons, and_t, decide_eq_true_eq]; exact ⟨h.1, ih h.2⟩
theorem ship_rises {item q b : Int} {ls : List Ln} (h : risesB b ls = true) (hq : ∀ l ∈ ls, l.item = item → 0 ≤ q ∧ l.shipped + q ≤ l.qty) : risesB b (shipL item q ls) = true ∧ net (shipL item q ls) = net ls ∧ (shipL item q ls).length = ls.length := by
  induction ls generalizing b with
  | nil => exact ⟨rfl, rfl, rfl⟩
  | cons l r ih =>
    obtain ⟨r1, r2, r3⟩ := rises_cons.1 h
    obtain ⟨i1, i2, i3⟩ := ih r3 fun x hx => hq x (List.mem_cons_of_mem _ hx)
    have e : shipL item q (l :: r) = (if l.item = item then ⟨l.item, l.price, l.qty, l.shipped + q⟩ else l) :: shipL item q r := rfl
    rw [e]
    by_cases heq : l.item = item
    · rw [if_pos heq]
      have := hq l (List.mem_cons_self ..) heq
      obtain ⟨m1, m2, m3, m4⟩ := lnB_iff.1 r2
      refine ⟨rises_cons.2 ⟨r1, lnB_iff.2 ⟨m1, m2, m3, by dsimp only; omega⟩, i1⟩, by rw [net_cons, net_cons, i2], by simp [i3]⟩
    · rw [if_neg heq]
      exact ⟨rises_cons.2 ⟨r1, r2, i1⟩, by rw [net_cons, net_cons, i2], by simp [i3]⟩
theorem clear_rises {b : Int} {ls : List Ln} (h : risesB b ls = true) : risesB b (clearL ls) = true ∧ net (clearL ls) = net ls ∧ (clearL ls).length = ls.length ∧ allB (clearL ls) = true := by
  induction ls generalizing b with
  | nil => exact ⟨rfl, rfl, rfl, rfl⟩
  | cons l r ih =>
    obtain ⟨r1, r2, r3⟩ := rises_cons.1 h
    obtain ⟨i1, i2, i3, i4⟩ := ih r3
    have e : clearL (l :: r) = ⟨l.item, l.price, l.qty, l.qty⟩ :: clearL r := rfl
    rw [e]
    obtain ⟨m1, m2, m3, m4⟩ := lnB_iff.1 r2
    refine ⟨rises_cons.2 ⟨r1, lnB_iff.2 ⟨m1, m2, m3, by dsimp only; omega⟩, i1⟩, by rw [net_cons, net_cons, i2], by simp [i3], ?_⟩
    simp only [allB, List.all_cons, and_t, decide_eq_true_eq]
    exact ⟨trivial, i4⟩
structure VOk (s : St) : Prop where
  order : 1 ≤ s.order ∧ s.order ≤ 1099511627776
  status : 0 ≤ s.status ∧ s.status ≤ 5
  cur : 0 ≤ s.cur ∧ s.cur ≤ 3
  tax : 0 ≤ s.tax ∧ s.tax ≤ 5000
  len : s.lines.length ≤ 16
  rises : risesB (-1) s.lines = true
  refunded : 0 ≤ s.refunded ∧ s.refunded ≤ s.paid
  events : 0 ≤ s.events ∧ s.events ≤ 1099511627776
  refused : 0 ≤ s.refused ∧ s.refused ≤ s.events
  stamp : 0 ≤ s.stamp ∧ s.stamp ≤ 1099511627776
  named : namedB s.who = true
  paid : s.paid ≤ due s
  prior : priorB s = true
  stands : standsB s (standsAt s) = true
theorem valid_iff {s : St} : validB s = true ↔ VOk s := by
  simp only [validB, boundedB, and_t, wi_iff, decide_eq_true_eq, linedB]
  constructor
  · rintro ⟨⟨⟨⟨⟨⟨⟨⟨⟨⟨⟨⟨h1, h2⟩, h3⟩, h4⟩, h5, h6⟩, h7⟩, h8⟩, h9⟩, h10⟩, h11⟩, h12⟩, h13⟩, h14⟩
    exact ⟨h1, h2, h3, h4, h5, h6, h7, h8, h9, h10, h11, h12, h13, h14⟩
  · rintro ⟨h1, h2, h3, h4, h5, h6, h7, h8, h9, h10, h11, h12, h13, h14⟩
    exact ⟨⟨⟨⟨⟨⟨⟨⟨⟨⟨⟨⟨h1, h2⟩, h3⟩, h4⟩, h5, h6⟩, h7⟩, h8⟩, h9⟩, h10⟩, h11⟩, h12⟩, h13⟩, h14⟩
structure EOk (e : Ev) : Prop where
  kind : 1 ≤ e.kind ∧ e.kind ≤ 10
  order : 1 ≤ e.order ∧ e.order ≤ 1099511627776
  item : 0 ≤ e.item ∧ e.item ≤ 65535
  qty : 0 ≤ e.qty ∧ e.qty ≤ 10000
  price : 0 ≤ e.price ∧ e.price ≤ 100000000
  cur : 0 ≤ e.cur ∧ e.cur ≤ 3
  tax : 0 ≤ e.tax ∧ e.tax ≤ 5000
  named : namedB e.who = true
  stamp : 0 ≤ e.stamp ∧ e.stamp ≤ 1099511627776
  note : e.note.size ≤ 120
theorem event_iff {e : Ev} : check5 e = 0 ↔ EOk e := by
  unfold check5
  constructor
  · intro h
    split at h
    · cases h
    split at h
    · cases h
    split at h
    · rename_i h1 h2 h3
      simp only [and_t, wi_iff] at h3
      obtain ⟨⟨⟨⟨⟨⟨⟨a1, a2⟩, a3⟩, a4⟩, a5⟩, a6⟩, a7⟩, a8⟩ := h3
      exact ⟨by omega, a1, a2, a3, a4, a5, a6, by simp only [namedB, and_t, decide_eq_true_eq]; exact ⟨by omega, a7⟩, a8, by omega⟩
    · cases h
  · rintro ⟨h1, h2, h3, h4, h5, h6, h7, h8, h9, h10⟩
    simp only [namedB, and_t, decide_eq_true_eq] at h8
    rw [if_neg (by omega), if_neg (by omega), if_pos]
    simp only [and_t, wi_iff]
    exact ⟨⟨⟨⟨⟨⟨⟨h2, h3⟩, h4⟩, h5⟩, h6⟩, h7⟩, h8.2⟩, h9⟩
theorem VOk.lines_ok {s : St} (h : VOk s) : ∀ l ∈ s.lines, lnB l = true := fun l hl => (rises_mem h.rises l hl).1
theorem VOk.due_pos {s : St} (h : VOk s) : 0 ≤ net s.lines ∧ 0 ≤ due s := by
  have h1 := net_bound h.lines_ok
  have h2 := tax_bound h1.1 h.tax.1 h.tax.2
  unfold due
  omega
theorem lineOf_some {ls : List Ln} {item : Int} {l : Ln} {b : Int} (h : lineOf ls item = some l) (hr : risesB b ls = true) : l ∈ ls ∧ l.item = item ∧ ∀ x ∈ ls, x.item = item → x = l := by
  have h1 : l ∈ ls := List.mem_of_find?_eq_some h
  have h2 : l.item = item := by have := List.find?_some h; simpa using this
  refine ⟨h1, h2, ?_⟩
  clear h
  induction ls generalizing b with
  | nil => cases h1
  | cons y r ih =>
    obtain ⟨r1, r2, r3⟩ := rises_cons.1 hr
    intro x hx hxi
    rcases List.mem_cons.1 hx with hx2 | hx2
    · rcases List.mem_cons.1 h1 with h3 | h3
      · rw [hx2, h3]
      · have := (rises_mem r3 l h3).2; subst hx2; omega
    · rcases List.mem_cons.1 h1 with h3 | h3
      · have := (rises_mem r3 x hx2).2; subst h3; omega
      · exact ih r3 h3 x hx2 hxi
theorem lineOf_none {ls : List Ln} {item : Int} (h : lineOf ls item = none) : ∀ x ∈ ls, x.item ≠ item := by
  intro x hx
  have := List.find?_eq_none.1 h x hx
  simpa using this
theorem bump_ok {s : St} {e : Ev} (hs : VOk s) (he : EOk e) : 0 ≤ (bump s e).stamp ∧ (bump s e).stamp ≤ 1099511627776 ∧ namedB (bump s e).who = true := by
  unfold bump
  dsimp only
  have h1 := hs.stamp
  have h2 := he.stamp
  refine ⟨by split <;> omega, by split <;> omega, ?_⟩
  split
  · exact hs.named
  · exact he.named
/-- What 'Fine' says. -/
structure Fine (s : St) (e : Ev) : Prop where
  valid : VOk s
  event : EOk e
  events : s.events ≠ 1099511627776
  own : e.order = s.order
  use : useB s e.kind = true
  qty : (e.kind = 2 ∨ e.kind = 6 ∨ e.kind = 4) → e.qty ≠ 0
  price : (e.kind = 3 ∨ e.kind = 7) → e.price ≠ 0
  there : (e.kind = 6 ∨ e.kind = 4) → ∃ l, lineOf s.lines e.item = some l
  room : e.kind = 2 → lineOf s.lines e.item = none → s.lines.length ≠ 16
  add : e.kind = 2 → ∀ l, lineOf s.lines e.item = some l → l.price = e.price ∧ l.qty + e.qty ≤ 100000
  drop : e.kind = 6 → ∀ l, lineOf s.lines e.item = some l → e.qty ≤ l.qty
  ship : e.kind = 4 → ∀ l, lineOf s.lines e.item = some l → e.qty ≤ l.qty - l.shipped
  pay : e.kind = 3 → s.paid + e.price ≤ due s
  refund : e.kind = 7 → s.refunded + e.price ≤ s.paid
theorem fine_of {s : St} {e : Ev} (h : judge s e = 0) : Fine s e := by
  unfold judge at h
  split at h
  · cases h
  rename_i h1
  split at h
  · cases h
  rename_i h2
  split at h
  · cases h
  rename_i h3
  split at h
  · cases h
  rename_i h4
  split at h
  · cases h
  rename_i h5
  split at h
  · cases h
  rename_i h6
  have hv : VOk s := valid_iff.1 (by simpa using fun hc => h1 (.inl hc))
  have he : EOk e := event_iff.1 (Decidable.byContradiction fun hc => h1 (.inr (.inl hc)))
  have hev : s.events ≠ 1099511627776 := fun hc => h1 (.inr (.inr hc))
  have hu : useB s e.kind = true := by simpa using h5
  have ho : e.order = s.order := Decidable.byContradiction fun hc => h2 hc
  cases hl : lineOf s.lines e.item with
  | none =>
    rw [hl] at h
    dsimp only at h
    split at h
    · cases h
    rename_i g1
    split at h
    · cases h
    rename_i g2
    split at h
    · cases h
    rename_i g3
    refine { valid := hv, event := he, events := hev, own := ho, use := hu, qty := fun hk hq => h6 (.inl ⟨hk, hq⟩), price := fun hk hq => h6 (.inr ⟨hk, hq⟩), there := fun hk => absurd hk g1, room := fun hk _ hc => g2 ⟨hk, hc⟩, add := ?_, drop := ?_, ship := ?_, pay := fun hk => ?_, refund := fun hk => ?_ }
    · intro _ l hc; rw [hl] at hc; cases hc
    · intro _ l hc; rw [hl] at hc; cases hc
    · intro _ l hc; rw [hl] at hc; cases hc
    · omega
    · omega
  | some l =>
    rw [hl] at h
    dsimp only at h
    split at h
    · cases h
    rename_i g1
    split at h
    · cases h
    rename_i g2
    split at h
    · cases h
    rename_i g3
    refine { valid := hv, event := he, events := hev, own := ho, use := hu, qty := fun hk hq => h6 (.inl ⟨hk, hq⟩), price := fun hk hq => h6 (.inr ⟨hk, hq⟩), there := fun hk => ⟨l, hl⟩, room := ?_, add := ?_, drop := ?_, ship := ?_, pay := fun hk => ?_, refund := fun hk => ?_ }
    · intro _ hc; rw [hl] at hc; cases hc
    · intro hk l' hc
      rw [hl] at hc
      injection hc with hc
      subst hc
      exact ⟨Decidable.byContradiction fun hn => g1 ⟨hk, hn⟩, by omega⟩
    · intro hk l' hc
      rw [hl] at hc
      injection hc with hc
      subst hc
      omega
    · intro hk l' hc
      rw [hl] at hc
      injection hc with hc
      subst hc
      omega
    · omega
    · omega
theorem due_bump (s : St) (e : Ev) : due (bump s e) = due s := rfl
theorem full_bump (s : St) (e : Ev) : fullB (bump s e) = fullB s := rfl
theorem none_zero {ls : List Ln} (h : noneB ls = true) : ∀ l ∈ ls, l.shipped = 0 := fun l hl => by
  have := List.all_eq_true.1 h l hl
  simpa using this
/-- Lines of which none is shipped, and that are worth something, are not all shipped. -/
theorem none_not_all {ls : List Ln} {b : Int} (hr : risesB b ls = true) (h : noneB ls = true) (hn : net ls ≠ 0) : allB ls = false := by
  cases ls with
  | nil => exact absurd rfl hn
  | cons l r =>
    obtain ⟨_, h2, _⟩ := rises_cons.1 hr
    obtain ⟨_, _, ⟨q1, _⟩, _⟩ := lnB_iff.1 h2
    have h0 := none_zero h l (List.mem_cons_self ..)
    simp only [allB, List.all_cons, Bool.and_eq_false_iff]
    left
    simp; omega
theorem stands_open {s : St} (h : VOk s) (hs : s.status = 1) : noneB s.lines = true ∧ fullB s = false ∧ s.refunded = 0 ∧ s.prior = 0 := by
  have h1 := h.stands
  have h2 := h.prior
  unfold standsB standsAt at h1
  unfold priorB at h2
  rw [if_neg (by omega)] at h2
  rw [hs] at h1
  simp at h1 h2
  exact ⟨h1.1.1, h1.1.2, h1.2, h2⟩
theorem stands_paid {s : St} (h : VOk s) (hs : s.status = 3) : fullB s = true ∧ allB s.lines = false ∧ s.prior = 0 := by
  have h1 := h.stands
  have h2 := h.prior
  unfold standsB standsAt at h1
  unfold priorB at h2
  rw [if_neg (by omega)] at h2
  rw [hs] at h1
  simp at h1 h2
  exact ⟨h1.1, h1.2, h2⟩
theorem stands_none {s : St} (h : VOk s) (hs : s.status = 0) : s.lines = [] ∧ s.cur = 0 ∧ s.tax = 0 ∧ s.events = s.refused ∧ s.stamp = 0 ∧ s.who.size = 0 ∧ s.prior = 0 ∧ s.paid = 0 ∧ s.refunded = 0 := by
  have h1 := h.stands
  have h2 := h.prior
  unfold standsB standsAt at h1
  unfold priorB at h2
  rw [if_neg (by omega)] at h2
  rw [hs] at h1
  simp at h1 h2
  have h3 := h.paid
  have h4 := h.refunded
  unfold due at h3
  rw [h1.1.1] at h3
  simp [net, taxOf] at h3
  exact ⟨h1.1.1, h1.1.2.1, h1.1.2.2.1, h1.1.2.2.2.1, h1.1.2.2.2.2, by rw [h1.2]; rfl, h2, by omega, by omega⟩
theorem stands_held {s : St} (h : VOk s) (hs : s.status = 2) : (s.prior = 1 ∧ noneB s.lines = true ∧ fullB s = false ∧ s.refunded = 0) ∨ (s.prior = 3 ∧ fullB s = true ∧ allB s.lines = false) := by
  have h1 := h.stands
  have h2 := h.prior
  unfold standsB standsAt at h1
  unfold priorB at h2
  rw [if_pos hs] at h2 h1
  simp at h2
  rcases h2 with h2 | h2
  · rw [h2] at h1
    simp at h1
    exact .inl ⟨h2, h1.1.1, h1.1.2, h1.2⟩
  · rw [h2] at h1
    simp at h1
    exact .inr ⟨h2, h1.1, h1.2⟩
theorem valid_rule {s : St} {e : Ev} (h : Fine s e) : VOk (rule (bump s e) e) := by
  have hv := h.valid
  have he := h.event
  obtain ⟨b1, b2, b3⟩ := bump_ok hv he
  have hev : 0 ≤ s.events + 1 ∧ s.events + 1 ≤ 1099511627776 := by have := hv.events; have := h.events; omega
  have hrf : 0 ≤ s.refused ∧ s.refused ≤ s.events + 1 := by have := hv.refused; omega
  have hu := h.use
  have hk := he.kind
  unfold rule
  by_cases k1 : e.kind = 1
  · rw [if_pos k1]
    unfold useB at hu
    rw [if_pos k1] at hu
    obtain ⟨z1, z2, z3, z4, z5, z6, z7, z8, z9⟩ := stands_none hv (by simpa using hu)
    refine ⟨hv.order, by dsimp only; omega, he.cur, he.tax, by show s.lines.length ≤ 16; exact hv.len, hv.rises, hv.refunded, hev, hrf, ⟨b1, b2⟩, b3, ?_, ?_, ?_⟩
    · show s.paid ≤ net s.lines + taxOf (net s.lines) e.tax
      rw [z1, z8]; simp [net, taxOf]
    · simp [priorB, bump, z7]
    · show standsB _ 1 = true
      simp [standsB, bump, z1, z8, z9, noneB, fullB]
  rw [if_neg k1]
  by_cases k2 : e.kind = 2
  · rw [if_pos k2]
    unfold useB at hu
    rw [if_neg k1, if_pos (.inl k2)] at hu
    simp at hu
    obtain ⟨z1, z2, z3, z4⟩ := stands_open hv hu.1
    have hq := h.qty (.inl k2)
    have hmo : MoreOk e.item e.price e.qty s.lines := by
      refine ⟨he.item.1, he.item.2, he.price.1, he.price.2, fun l hl hi => ?_, fun _ => ?_⟩
      · have h0 := none_zero z1 l hl
        cases hlo : lineOf s.lines e.item with
        | none => exact absurd hi (lineOf_none hlo l hl)
        | some l' =>
          have hu := (lineOf_some hlo hv.rises).2.2 l hl hi
          subst hu
          have := h.add k2 l hlo
          have := lnB_iff.1 (hv.lines_ok l hl)
          have := he.qty
          exact ⟨h0, by omega, by omega⟩
      · have := he.qty; omega
    have hr := more_rises hv.rises (by have := he.item; omega) hmo
    have hlen : (more e.item e.price e.qty s.lines).length ≤ 16 := by
      have hm := more_len e.item e.price e.qty s.lines
      have h16 := hv.len
      cases hlo : lineOf s.lines e.item with
      | none => have := h.room k2 hlo; omega
      | some l' =>
        have hu := lineOf_some hlo hv.rises
        have := hm.2 ⟨l', hu.1, hu.2.1⟩ _ hv.rises
        omega
    have hnet := net_bound fun l hl => (rises_mem hr l hl).1
    have htax := tax_bound hnet.1 hv.tax.1 hv.tax.2
    refine ⟨hv.order, hv.status, hv.cur, hv.tax, hlen, hr, hv.refunded, hev, hrf, ⟨b1, b2⟩, b3, ?_, ?_, ?_⟩
    · show s.paid ≤ net (more e.item e.price e.qty s.lines) + taxOf (net (more e.item e.price e.qty s.lines)) s.tax
      omega
    · simp [priorB, bump, hu.1, z4]
    · show standsB _ (if s.status = 2 then s.prior else s.status) = true
      rw [if_neg (by omega), hu.1]
      simp [standsB, bump, more_none z1, z3, fullB, hu.2]
  rw [if_neg k2]
  by_cases k6 : e.kind = 6
  · rw [if_pos k6]
    unfold useB at hu
    rw [if_neg k1, if_pos (.inr k6)] at hu
    simp at hu
    obtain ⟨z1, z2, z3, z4⟩ := stands_open hv hu.1
    obtain ⟨l0, hl0⟩ := h.there (.inl k6)
    have hd := h.drop k6 l0 hl0
    obtain ⟨m1, m2, m3⟩ := lineOf_some hl0 hv.rises
    have hmo : MoreOk e.item e.price (-e.qty) s.lines := by
      refine ⟨he.item.1, he.item.2, he.price.1, he.price.2, fun l hl hi => ?_, fun hn => absurd m2 (hn l0 m1)⟩
      have := m3 l hl hi
      subst this
      have := lnB_iff.1 (hv.lines_ok l hl)
      have := he.qty
      exact ⟨none_zero z1 l hl, by omega, by omega⟩
    have hr := more_rises hv.rises (by have := he.item; omega) hmo
    have hlen := (more_len e.item e.price (-e.qty) s.lines).2 ⟨l0, m1, m2⟩ _ hv.rises
    have hnet := net_bound fun l hl => (rises_mem hr l hl).1
    have htax := tax_bound hnet.1 hv.tax.1 hv.tax.2
    refine ⟨hv.order, hv.status, hv.cur, hv.tax, Nat.le_trans hlen hv.len, hr, hv.refunded, hev, hrf, ⟨b1, b2⟩, b3, ?_, ?_, ?_⟩
    · show s.paid ≤ net (more e.item e.price (-e.qty) s.lines) + taxOf (net (more e.item e.price (-e.qty) s.lines)) s.tax
      omega
    · simp [priorB, bump, hu.1, z4]
    · show standsB _ (if s.status = 2 then s.prior else s.status) = true
      rw [if_neg (by omega), hu.1]
      simp [standsB, bump, more_none z1, z3, fullB, hu.2]
  rw [if_neg k6]
  by_cases k3 : e.kind = 3
  · rw [if_pos k3]
    unfold useB at hu
    rw [if_neg k1, if_neg (by omega), if_pos k3] at hu
    simp at hu
    obtain ⟨z1, z2, z3, z4⟩ := stands_open hv hu
    have hp := h.pay k3
    have hpr := h.price (.inl k3)
    have hpp := he.price
    have hre := hv.refunded
    by_cases hd : s.paid + e.price = due s
    · rw [if_pos (show (bump s e).paid + e.price = due (bump s e) from hd)]
      have hn : net s.lines ≠ 0 := by
        intro h0
        have : due s = 0 := by unfold due; rw [h0]; simp [taxOf]
        omega
      have ha := none_not_all hv.rises z1 hn
      refine ⟨hv.order, by dsimp only; omega, hv.cur, hv.tax, hv.len, hv.rises, ?_, hev, hrf, ⟨b1, b2⟩, b3, hp, ?_, ?_⟩
      · show 0 ≤ s.refunded ∧ s.refunded ≤ s.paid + e.price; omega
      · simp [priorB, bump, z4]
      · show (decide (s.paid + e.price = due s ∧ 0 < s.paid + e.price) && !allB s.lines) = true
        rw [ha]
        simp only [Bool.not_false, Bool.and_true, decide_eq_true_eq]
        omega
    · rw [if_neg (show ¬ (bump s e).paid + e.price = due (bump s e) from hd)]
      refine ⟨hv.order, hv.status, hv.cur, hv.tax, hv.len, hv.rises, ?_, hev, hrf, ⟨b1, b2⟩, b3, hp, ?_, ?_⟩
      · show 0 ≤ s.refunded ∧ s.refunded ≤ s.paid + e.price; omega
      · simp [priorB, bump, hu, z4]
      · show standsB _ (if s.status = 2 then s.prior else s.status) = true
        rw [if_neg (by omega), hu]
        show (noneB s.lines && !decide (s.paid + e.price = due s ∧ 0 < s.paid + e.price) && decide (s.refunded = 0)) = true
        simp [z1, z3, hd]
  rw [if_neg k3]
  by_cases k4 : e.kind = 4
  · rw [if_pos k4]
    unfold useB at hu
    rw [if_neg k1, if_neg (by omega), if_neg k3, if_pos (.inl k4)] at hu
    simp at hu
    obtain ⟨z1, z2, z3⟩ := stands_paid hv hu
    obtain ⟨l0, hl0⟩ := h.there (.inr k4)
    have hs := h.ship k4 l0 hl0
    obtain ⟨m1, m2, m3⟩ := lineOf_some hl0 hv.rises
    have hqq := he.qty
    obtain ⟨g1, g2, g3⟩ := ship_rises (item := e.item) (q := e.qty) hv.rises fun l hl hi => by have := m3 l hl hi; subst this; omega
    have hf : decide (s.paid = net (shipL e.item e.qty s.lines) + taxOf (net (shipL e.item e.qty s.lines)) s.tax ∧ 0 < s.paid) = true := by rw [g2]; exact z1
    have hpd : s.paid ≤ net (shipL e.item e.qty s.lines) + taxOf (net (shipL e.item e.qty s.lines)) s.tax := by rw [g2]; exact hv.paid
    by_cases ha : allB (shipL e.item e.qty s.lines) = true
    · rw [if_pos (show allB (shipL e.item e.qty (bump s e).lines) = true from ha)]
      refine ⟨hv.order, by dsimp only; omega, hv.cur, hv.tax, by show (shipL e.item e.qty s.lines).length ≤ 16; rw [g3]; exact hv.len, g1, hv.refunded, hev, hrf, ⟨b1, b2⟩, b3, hpd, ?_, ?_⟩
      · simp [priorB, bump, z3]
      · show (decide (s.paid = net (shipL e.item e.qty s.lines) + taxOf (net (shipL e.item e.qty s.lines)) s.tax ∧ 0 < s.paid) && allB (shipL e.item e.qty s.lines)) = true
        rw [hf, ha]; rfl
    · rw [if_neg (show ¬ allB (shipL e.item e.qty (bump s e).lines) = true from ha)]
      refine ⟨hv.order, hv.status, hv.cur, hv.tax, by show (shipL e.item e.qty s.lines).length ≤ 16; rw [g3]; exact hv.len, g1, hv.refunded, hev, hrf, ⟨b1, b2⟩, b3, hpd, ?_, ?_⟩
      · simp [priorB, bump, hu, z3]
      · show standsB _ (if s.status = 2 then s.prior else s.status) = true
        rw [if_neg (by omega), hu]
        show (decide (s.paid = net (shipL e.item e.qty s.lines) + taxOf (net (shipL e.item e.qty s.lines)) s.tax ∧ 0 < s.paid) && !allB (shipL e.item e.qty s.lines)) = true
        rw [hf]; simpa using ha
  rw [if_neg k4]
  by_cases k10 : e.kind = 10
  · rw [if_pos k10]
    unfold useB at hu
    rw [if_neg k1, if_neg (by omega), if_neg k3, if_pos (.inr k10)] at hu
    simp at hu
    obtain ⟨z1, z2, z3⟩ := stands_paid hv hu
    obtain ⟨g1, g2, g3, g4⟩ := clear_rises hv.rises
    refine ⟨hv.order, by dsimp only; omega, hv.cur, hv.tax, by show (clearL s.lines).length ≤ 16; rw [g3]; exact hv.len, g1, hv.refunded, hev, hrf, ⟨b1, b2⟩, b3, ?_, ?_, ?_⟩
    · show s.paid ≤ net (clearL s.lines) + taxOf (net (clearL s.lines)) s.tax
      rw [g2]; exact hv.paid
    · simp [priorB, bump, z3]
    · show (decide (s.paid = net (clearL s.lines) + taxOf (net (clearL s.lines)) s.tax ∧ 0 < s.paid) && allB (clearL s.lines)) = true
      rw [g2, g4]
      have : decide (s.paid = net s.lines + taxOf (net s.lines) s.tax ∧ 0 < s.paid) = true := z1
      rw [this]; rfl
  rw [if_neg k10]
  by_cases k7 : e.kind = 7
  · rw [if_pos k7]
    have hr := h.refund k7
    have hpp := he.price
    have hre := hv.refunded
    unfold useB at hu
    rw [if_neg k1, if_neg (by omega), if_neg k3, if_neg (by omega), if_pos k7] at hu
    simp at hu
    refine ⟨hv.order, hv.status, hv.cur, hv.tax, hv.len, hv.rises, ?_, hev, hrf, ⟨b1, b2⟩, b3, hv.paid, hv.prior, ?_⟩
    · show 0 ≤ s.refunded + e.price ∧ s.refunded + e.price ≤ s.paid; omega
    · have hst := hv.stands
      have e1 : standsAt s = s.status := by unfold standsAt; rw [if_neg (by omega)]
      rw [e1] at hst
      show standsB _ (if s.status = 2 then s.prior else s.status) = true
      rw [if_neg (by omega)]
      rcases hu with hu | hu | hu <;> rw [hu] at hst ⊢ <;> exact hst
  rw [if_neg k7]
  by_cases k5 : e.kind = 5
  · rw [if_pos k5]
    have hn : noneB s.lines = true := by
      unfold useB at hu
      rw [if_neg k1, if_neg (by omega), if_neg k3, if_neg (by omega), if_neg k7, if_pos k5] at hu
      simp at hu
      rcases hu with hu | hu
      · exact (stands_open hv hu).1
      · exact hu.2
    refine ⟨hv.order, by dsimp only; omega, hv.cur, hv.tax, hv.len, hv.rises, hv.refunded, hev, hrf, ⟨b1, b2⟩, b3, hv.paid, by simp [priorB], ?_⟩
    show noneB s.lines = true
    exact hn
  rw [if_neg k5]
  by_cases k8 : e.kind = 8
  · rw [if_pos k8]
    unfold useB at hu
    rw [if_neg k1, if_neg (by omega), if_neg k3, if_neg (by omega), if_neg k7, if_neg k5, if_pos k8] at hu
    simp at hu
    have hst := hv.stands
    have e1 : standsAt s = s.status := by unfold standsAt; rw [if_neg (by omega)]
    rw [e1] at hst
    refine ⟨hv.order, by dsimp only; omega, hv.cur, hv.tax, hv.len, hv.rises, hv.refunded, hev, hrf, ⟨b1, b2⟩, b3, hv.paid, by simp [priorB, bump]; exact hu, ?_⟩
    show standsB _ s.status = true
    rcases hu with hu | hu <;> rw [hu] at hst ⊢ <;> exact hst
  rw [if_neg k8]
  have k9 : e.kind = 9 := by omega
  rw [if_pos k9]
  unfold useB at hu
  rw [if_neg k1, if_neg (by omega), if_neg k3, if_neg (by omega), if_neg k7, if_neg k5, if_neg k8] at hu
  simp at hu
  have hst := hv.stands
  have e1 : standsAt s = s.prior := by unfold standsAt; rw [if_pos hu.2]
  rw [e1] at hst
  have hp := stands_held hv hu.2
  refine ⟨hv.order, by dsimp only [bump]; omega, hv.cur, hv.tax, hv.len, hv.rises, hv.refunded, hev, hrf, ⟨b1, b2⟩, b3, hv.paid, ?_, ?_⟩
  · dsimp only [priorB, bump]; rw [if_neg (by omega)]; rfl
  · show standsB _ (if s.prior = 2 then 0 else s.prior) = true
    rw [if_neg (by omega)]
    rcases hp with hp | hp <;> rw [hp.1] at hst ⊢ <;> exact hst
theorem valid_apply {s : St} {e : Ev} (h : VOk s) : VOk (apply s e).1 := by
  unfold apply
  split
  · exact h
  rename_i h1
  split
  · have hev : s.events ≠ 1099511627776 := by
      intro hc
      refine h1 (.inl ?_)
      unfold judge
      rw [if_pos (.inr (.inr hc))]
    have h2 := h.events
    have h3 := h.refused
    have hne : s.status ≠ 0 ∨ True := .inr trivial
    refine ⟨h.order, h.status, h.cur, h.tax, h.len, h.rises, h.refunded, by dsimp only; omega, by dsimp only; omega, h.stamp, h.named, h.paid, h.prior, ?_⟩
    have hst := h.stands
    show standsB _ (standsAt s) = true
    unfold standsB at hst ⊢
    dsimp only
    split
    · rename_i h0
      rw [if_pos h0] at hst
      simp only [and_t, decide_eq_true_eq] at hst ⊢
      exact ⟨⟨hst.1.1, hst.1.2.1, hst.1.2.2.1, by omega, hst.1.2.2.2.2⟩, hst.2⟩
    · rename_i h0
      rw [if_neg h0] at hst
      exact hst
  · rename_i h2
    exact valid_rule (fine_of (by simpa using h2))
theorem valid_fold {s : St} (es : List Ev) (h : VOk s) : VOk (fold s es) := by
  unfold fold
  induction es generalizing s with
  | nil => exact h
  | cons e r ih => exact ih (valid_apply h)
/-- The lengths of a state. -/
def StSm (s : St) : Prop := s.lines.length ≤ 4398046510976 ∧ s.who.size ≤ 4611686018427387904
def EvSm (e : Ev) : Prop := e.who.size ≤ 4611686018427387904 ∧ e.note.size ≤ 4611686018427387904
theorem sm_of_valid {s : St} (h : VOk s) : StSm s := by
  have h1 := h.len
  have h2 := h.named
  simp only [namedB, and_t, decide_eq_true_eq] at h2
  exact ⟨by omega, by omega⟩
end Go.Proofs.YtjajbbgebblalaaGreatDoor

namespace Go.Proofs.YtjajbbgebblalaaGreatDoor
open Go.RowKit
set_option linter.unusedVariables false
set_option linter.unusedSimpArgs false
def lineV (l : Ln) : List Int := [l.item, l.price, l.qty, l.shipped]
def lineB (l : Ln) : List UInt8 := (lineV l).flatMap fun v => venc (toU v)
def numsOf (s : St) : List Int := [s.order, s.status, s.prior, s.cur, s.tax, s.paid, s.refunded, s.events, s.refused, s.stamp]
def numFs (t : Int) : List Int → List Fld
  | [] => []
  | v :: r => ⟨t, false, toU v, []⟩ :: numFs (t + 1) r
def lineFs (t : Int) : List Ln → List Fld
  | [] => []
  | l :: r => ⟨t, true, 0, lineB l⟩ :: lineFs (t + 1) r
def whoF (s : St) : Fld := ⟨11, true, 0, s.who.data.toList⟩
def allF (s : St) : List Fld := numFs 1 (numsOf s) ++ (whoF s :: lineFs 12 s.lines)
def holds (f : Fld) : Bool := if f.text then !f.bytes.isEmpty else decide (f.num ≠ 0)
/-- The fields of a state's record. -/
def refF (s : St) : List Fld := (allF s).filter holds
/-- The record of a state, and the fault. -/
def canE (s : St) : List UInt8 × Nat := if validB s = true then (encR (refF s), encE (refF s)) else ([], 40)
theorem numFs_app (t : Int) (a b : List Int) : numFs t (a ++ b) = numFs t a ++ numFs (t + a.length) b := by
  induction a generalizing t with
  | nil => simp [numFs]
  | cons v r ih => simp only [List.cons_append, numFs, ih, List.length_cons]; rw [show t + 1 + (r.length : Int) = t + ((r.length + 1 : Nat) : Int) by omega]
theorem lineFs_app (t : Int) (a b : List Ln) : lineFs t (a ++ b) = lineFs t a ++ lineFs (t + a.length) b := by
  induction a generalizing t with
  | nil => simp [lineFs]
  | cons v r ih => simp only [List.cons_append, lineFs, ih, List.length_cons]; rw [show t + 1 + (r.length : Int) = t + ((r.length + 1 : Nat) : Int) by omega]
theorem numFs_len (t : Int) (a : List Int) : (numFs t a).length = a.length := by
  induction a generalizing t with
  | nil => rfl
  | cons v r ih => simp [numFs, ih]
theorem lineFs_len (t : Int) (a : List Ln) : (lineFs t a).length = a.length := by
  induction a generalizing t with
  | nil => rfl
  | cons v r ih => simp [lineFs, ih]
theorem numFs_take {t : Int} {l : List Int} {k : Nat} (hk : k < l.length) : numFs t (l.take (k + 1)) = numFs t (l.take k) ++ [⟨t + k, false, toU l[k], []⟩] := by
  rw [List.take_succ_eq_append_getElem hk, numFs_app]
  simp [numFs, List.length_take, Nat.min_eq_left (Nat.le_of_lt hk)]
theorem lineFs_take {t : Int} {l : List Ln} {k : Nat} (hk : k < l.length) : lineFs t (l.take (k + 1)) = lineFs t (l.take k) ++ [⟨t + k, true, 0, lineB l[k]⟩] := by
  rw [List.take_succ_eq_append_getElem hk, lineFs_app]
  simp [lineFs, List.length_take, Nat.min_eq_left (Nat.le_of_lt hk)]
theorem mem_numFs {t : Int} {l : List Int} {f : Fld} (h : f ∈ numFs t l) : t ≤ f.tag ∧ f.tag < t + l.length ∧ f.text = false ∧ f.bytes = [] ∧ f.num < 18446744073709551616 := by
  induction l generalizing t with
  | nil => cases h
  | cons v r ih =>
    rcases List.mem_cons.1 h with rfl | h
    · exact ⟨by dsimp only; omega, by dsimp only; simp; omega, rfl, rfl, toU_lt v⟩
    · have := ih h; simp only [List.length_cons]; exact ⟨by omega, by omega, this.2.2⟩
theorem mem_lineFs {t : Int} {l : List Ln} {f : Fld} (h : f ∈ lineFs t l) : t ≤ f.tag ∧ f.tag < t + l.length ∧ f.text = true ∧ f.num = 0 ∧ ∃ x ∈ l, f.bytes = lineB x := by
  induction l generalizing t with
  | nil => cases h
  | cons v r ih =>
    rcases List.mem_cons.1 h with rfl | h
    · exact ⟨by dsimp only; omega, by dsimp only; simp; omega, rfl, rfl, v, List.mem_cons_self .., rfl⟩
    · obtain ⟨a, b, c, d, x, hx, e⟩ := ih h
      simp only [List.length_cons]
      exact ⟨by omega, by omega, c, d, x, List.mem_cons_of_mem _ hx, e⟩
/-- Strictly rising tags, behind the tag b. -/
def rising (b : Int) : List Fld → Prop
  | [] => True
  | f :: r => b < f.tag ∧ rising f.tag r
theorem rising_mem {b : Int} {l : List Fld} (h : rising b l) : ∀ f ∈ l, b < f.tag := by
  induction l generalizing b with
  | nil => intro f hf; cases hf
  | cons g r ih =>
    intro f hf
    rcases List.mem_cons.1 hf with rfl | hf
    · exact h.1
    · have h1 := ih h.2 f hf; have h2 := h.1; omega
theorem rising_weak {b c : Int} {l : List Fld} (h : rising b l) (hc : c ≤ b) : rising c l := by
  cases l with
  | nil => trivial
  | cons f r => have h1 := h.1; exact ⟨by omega, h.2⟩
theorem rising_app {b : Int} {l m : List Fld} (h : rising b l) {c : Int} (hc : ∀ f ∈ l, f.tag ≤ c) (hb : b ≤ c) (hm : rising c m) : rising b (l ++ m) := by
  induction l generalizing b with
  | nil => exact rising_weak hm hb
  | cons f r ih => exact ⟨h.1, ih h.2 (fun g hg => hc g (List.mem_cons_of_mem _ hg)) (hc f (List.mem_cons_self ..))⟩
theorem rising_filter {b : Int} {l : List Fld} (p : Fld → Bool) (h : rising b l) : rising b (l.filter p) := by
  induction l generalizing b with
  | nil => trivial
  | cons f r ih =>
    rw [List.filter_cons]
    split
    · exact ⟨h.1, ih h.2⟩
    · exact rising_weak (ih h.2) (by have := h.1; omega)
theorem rising_numFs (t : Int) (l : List Int) : rising (t - 1) (numFs t l) := by
  induction l generalizing t with
  | nil => trivial
  | cons v r ih => exact ⟨by dsimp only; omega, by have := ih (t + 1); rw [show t + 1 - 1 = t by omega] at this; exact this⟩
theorem rising_lineFs (t : Int) (l : List Ln) : rising (t - 1) (lineFs t l) := by
  induction l generalizing t with
  | nil => trivial
  | cons v r ih => exact ⟨by dsimp only; omega, by have := ih (t + 1); rw [show t + 1 - 1 = t by omega] at this; exact this⟩
theorem rising_allF (s : St) : rising 0 (allF s) := by
  unfold allF
  refine rising_app (c := 10) (rising_numFs 1 _) (fun f hf => ?_) (by omega) ⟨by unfold whoF; dsimp only; omega, ?_⟩
  · have := mem_numFs hf
    have h2 : (numsOf s).length = 10 := rfl
    omega
  · exact rising_lineFs 12 _
theorem rising_of_faults {last : Int} {fs : List Fld} (h : faults last fs = 0) : rising last fs := by
  induction fs generalizing last with
  | nil => trivial
  | cons f r ih =>
    simp only [faults] at h
    split at h
    · omega
    · rename_i h1
      exact ⟨(fault_ok (by omega : fault f last = 0)).2.2.1, ih h⟩
/-- A line's text: four numbers. -/
theorem lineB_eq (l : Ln) : lineB l = venc (toU l.item) ++ (venc (toU l.price) ++ (venc (toU l.qty) ++ venc (toU l.shipped))) := by
  simp [lineB, lineV]
theorem toU_pos {v : Int} (h : 0 ≤ v) (h2 : v < 18446744073709551616) : toU v = v.toNat := by unfold toU; rw [Int.emod_eq_of_lt h h2]
theorem lineB_len {l : Ln} (h : lnB l = true) : 0 < (lineB l).length ∧ (lineB l).length ≤ 13 := by
  rw [lnB_iff] at h
  rw [lineB_eq]
  have h1 := venc_len 2 (toU l.item) (by rw [toU_pos (by omega) (by omega)]; omega)
  have h2 := venc_len 3 (toU l.price) (by rw [toU_pos (by omega) (by omega)]; omega)
  have h3 := venc_len 2 (toU l.qty) (by rw [toU_pos (by omega) (by omega)]; omega)
  have h4 := venc_len 2 (toU l.shipped) (by rw [toU_pos (by omega) (by omega)]; omega)
  have h5 := venc_pos (toU l.item)
  simp only [List.length_append]
  omega
/-- What a field of a valid state's list is like. -/
def okF (f : Fld) : Prop := 1 ≤ f.tag ∧ f.tag ≤ 31 ∧ f.wf ∧ f.plain ∧ (f.text = true → f.bytes.length ≤ 200)
theorem who_len {s : St} (h : VOk s) : s.who.data.toList.length ≤ 16 := by
  have := h.named
  simp only [namedB, and_t, decide_eq_true_eq] at this
  have h2 := this.1
  rw [Array.length_toList]
  exact h2
theorem okF_all {s : St} (h : VOk s) : ∀ f ∈ allF s, okF f := by
  intro f hf
  unfold allF at hf
  rw [List.mem_append, List.mem_cons] at hf
  rcases hf with hf | rfl | hf
  · obtain ⟨a, b, c, d, e⟩ := mem_numFs hf
    have h2 : (numsOf s).length = 10 := rfl
    exact ⟨by omega, by omega, ⟨by omega, by omega, e⟩, ⟨fun h => (by rw [c] at h; cases h), fun _ => d⟩, fun h => (by rw [c] at h; cases h)⟩
  · have := who_len h
    unfold whoF okF Fld.wf Fld.plain
    exact ⟨by dsimp only; omega, by dsimp only; omega, ⟨by dsimp only; omega, by dsimp only; omega, by dsimp only; omega⟩, ⟨fun _ => rfl, fun h => by cases h⟩, fun _ => by dsimp only; omega⟩
  · obtain ⟨a, b, c, d, x, hx, e⟩ := mem_lineFs hf
    have h2 := h.len
    have h3 := lineB_len (h.lines_ok x hx)
    exact ⟨by omega, by omega, ⟨by omega, by omega, by omega⟩, ⟨fun _ => d, fun h => (by rw [c] at h; cases h)⟩, fun _ => by rw [e]; omega⟩
theorem fault_holds {f : Fld} {last : Int} (h : okF f) (hl : last < f.tag) : (holds f = true → fault f last = 0) ∧ (holds f = false → fault f last = 22) := by
  obtain ⟨h1, h2, h3, h4, h5⟩ := h
  unfold holds fault
  cases ht : f.text with
  | true =>
    have h6 := h5 ht
    simp only [if_true, Bool.not_eq_true', Bool.not_eq_false', List.isEmpty_iff]
    rw [if_neg (by omega), if_neg (by omega)]
    constructor
    · intro h
      have : f.bytes.length ≠ 0 := fun hc => by have := List.eq_nil_of_length_eq_zero hc; rw [this] at h; cases h
      rw [if_neg this, if_neg (by omega)]
    · intro h
      rw [h]
      rfl
  | false =>
    simp only [Bool.false_eq_true, if_false, decide_eq_true_eq, decide_eq_false_iff_not, ne_eq, Decidable.not_not]
    rw [if_neg (by omega), if_neg (by omega)]
    exact ⟨fun h => if_neg h, fun h => if_pos h⟩
theorem foldl_addW (fs : List Fld) (l : List Fld) (hr : rising (lastT l) fs) (ho : ∀ f ∈ fs, okF f) : fs.foldl addW (l, 0) = (l ++ fs.filter holds, 0) := by
  induction fs generalizing l with
  | nil => simp
  | cons f r ih =>
    rw [List.foldl_cons, List.filter_cons]
    have hf := fault_holds (ho f (List.mem_cons_self ..)) hr.1
    cases hh : holds f with
    | true =>
      rw [addW_ok (hf.1 hh), ih (l ++ [f]) (by rw [lastT_snoc]; exact hr.2) (fun g hg => ho g (List.mem_cons_of_mem _ hg))]
      simp
    | false =>
      rw [addW_zero (hf.2 hh), ih l (rising_weak hr.2 (by have := hr.1; omega)) (fun g hg => ho g (List.mem_cons_of_mem _ hg))]
      simp
theorem fold_all {s : St} (h : VOk s) : (allF s).foldl addW ([], 0) = (refF s, 0) := by
  rw [foldl_addW (allF s) [] (rising_allF s) (okF_all h)]
  simp [refF]
theorem faults_rise {last : Int} {fs : List Fld} (hr : rising last fs) (ho : ∀ f ∈ fs, okF f ∧ holds f = true) : faults last fs = 0 := by
  induction fs generalizing last with
  | nil => rfl
  | cons f r ih =>
    have h1 := (fault_holds (ho f (List.mem_cons_self ..)).1 hr.1).1 (ho f (List.mem_cons_self ..)).2
    simp only [faults]
    rw [if_neg (by omega)]
    exact ih hr.2 fun g hg => ho g (List.mem_cons_of_mem _ hg)
theorem refF_rises (s : St) : rising 0 (refF s) := rising_filter holds (rising_allF s)
theorem refF_ok {s : St} (h : VOk s) : ∀ f ∈ refF s, okF f ∧ holds f = true := fun f hf => ⟨okF_all h f (List.mem_filter.1 hf).1, (List.mem_filter.1 hf).2⟩
theorem refF_faults {s : St} (h : VOk s) : faults 0 (refF s) = 0 := faults_rise (refF_rises s) (refF_ok h)
theorem one_num_len (f : Fld) (ht : f.text = false) (h1 : 0 ≤ f.tag) (h2 : f.tag ≤ 31) (hn : f.num < 18446744073709551616) : (one f).length ≤ 11 := by
  unfold one
  rw [ht]
  simp only [Bool.false_eq_true, if_false, List.length_append]
  have h3 := venc_len 0 (f.tag.toNat * 2) (by omega)
  have h4 := venc_len10 f.num hn
  omega
theorem one_text_len (f : Fld) (ht : f.text = true) (h1 : 0 ≤ f.tag) (h2 : f.tag ≤ 31) (hn : f.bytes.length ≤ 16) : (one f).length ≤ 18 := by
  unfold one
  rw [ht]
  simp only [if_true, List.length_append]
  have h3 := venc_len 0 (f.tag.toNat * 2 + 1) (by omega)
  have h4 := venc_len 0 f.bytes.length (by omega)
  omega
theorem encB_filter_len (p : Fld → Bool) (fs : List Fld) : (encB (fs.filter p)).length ≤ (encB fs).length := by
  induction fs with
  | nil => simp
  | cons f r ih =>
    rw [List.filter_cons, encB_cons, List.length_append]
    split
    · rw [encB_cons, List.length_append]; omega
    · omega
theorem encB_each (k : Nat) (fs : List Fld) (h : ∀ f ∈ fs, (one f).length ≤ k) : (encB fs).length ≤ k * fs.length := by
  induction fs with
  | nil => simp [encB]
  | cons f r ih =>
    rw [encB_cons, List.length_append, List.length_cons, Nat.mul_succ]
    have h1 := h f (List.mem_cons_self ..)
    have h2 := ih fun g hg => h g (List.mem_cons_of_mem _ hg)
    omega
theorem refF_len {s : St} (h : VOk s) : (encB (refF s)).length ≤ 420 := by
  refine Nat.le_trans (encB_filter_len holds (allF s)) ?_
  unfold allF
  rw [encB_app, encB_cons, List.length_append, List.length_append]
  have hn : (numsOf s).length = 10 := rfl
  have h1 := encB_each 11 (numFs 1 (numsOf s)) fun f hf => by
    obtain ⟨a, b, c, d, e⟩ := mem_numFs hf
    exact one_num_len f c (by omega) (by omega) e
  rw [numFs_len, hn] at h1
  have h2 := one_text_len (whoF s) rfl (by unfold whoF; dsimp only; omega) (by unfold whoF; dsimp only; omega) (who_len h)
  have h3 := encB_each 18 (lineFs 12 s.lines) fun f hf => by
    obtain ⟨a, b, c, d, x, hx, e⟩ := mem_lineFs hf
    have h2 := h.len
    have h3 := lineB_len (h.lines_ok x hx)
    exact one_text_len f c (by omega) (by omega) (by rw [e]; omega)
  rw [lineFs_len] at h3
  have h4 := h.len
  omega
theorem refF_enc {s : St} (h : VOk s) : encE (refF s) = 0 := by
  unfold encE
  rw [refF_faults h, if_neg (by simp), if_neg (by have := refF_len h; omega)]
theorem refF_wf {s : St} (h : VOk s) : FWf (refF s) := fun f hf => (refF_ok h f hf).1.2.2.1
theorem refF_dec {s : St} (h : VOk s) : dec (encR (refF s)) = (refF s, 0, 0) := by
  rw [dec_enc (refF_wf h) (refF_enc h), map_strip fun f hf => (refF_ok h f hf).1.2.2.2.1]
theorem canE_ok {s : St} (h : validB s = true) : canE s = (encR (refF s), 0) := by
  unfold canE
  rw [if_pos h, refF_enc (valid_iff.1 h)]
end Go.Proofs.YtjajbbgebblalaaGreatDoor

namespace Go.Proofs.YtjajbbgebblalaaGreatDoor
open Go.RowKit
set_option linter.unusedVariables false
set_option linter.unusedSimpArgs false
def findF (fs : List Fld) (t : Int) : Option Fld := fs.find? fun f => decide (f.tag = t)
def cnumAt (fs : List Fld) (t : Int) : Nat := match findF fs t with
  | some f => if f.text = false then f.num else 0
  | none => 0
def textAt (fs : List Fld) (t : Int) : List UInt8 := match findF fs t with
  | some f => if f.text = true then f.bytes else []
  | none => []
/-- The texts that stand behind each other from the tag t on, n at most. -/
def runT (fs : List Fld) : Nat → Int → List (List UInt8)
  | 0, _ => []
  | n + 1, t => if textAt fs t = [] then [] else textAt fs t :: runT fs n (t + 1)
def clampN (u : Nat) : Nat := if 4611686018427387904 < u then 4611686018427387904 else u
/-- n numbers with which b begins, and what stands behind them. -/
def unlV : Nat → List UInt8 → Option (List Int × List UInt8)
  | 0, b => some ([], b)
  | n + 1, b => if (vdec b).2.2 ≠ 0 then none else (unlV n (b.drop (vdec b).2.1)).map fun x => (((clampN (vdec b).1 : Nat) : Int) :: x.1, x.2)
def lnOf (v : List Int) : Ln := ⟨v.getD 0 0, v.getD 1 0, v.getD 2 0, v.getD 3 0⟩
def unl (b : List UInt8) : Ln × Bool := match unlV 4 b with
  | some x => (lnOf x.1, x.2.isEmpty)
  | none => (⟨0, 0, 0, 0⟩, false)
def runOf (fs : List Fld) : List (List UInt8) := runT fs 16 12
/-- The last tag that a reading asks for. -/
def lastK (fs : List Fld) : Int := 11 + (if (runOf fs).length < 16 then (runOf fs).length + 1 else 16 : Nat)
def wrongF (f : Fld) : Bool := f.text != decide (11 ≤ f.tag)
def formE (fs : List Fld) : Nat := if fs.any (fun f => decide (f.tag ≤ lastK fs) && wrongF f) = true then 33 else if fs.any (fun f => decide (lastK fs < f.tag)) = true then 20 else 0
def numI (fs : List Fld) (t : Int) : Int := ((clampN (cnumAt fs t) : Nat) : Int)
def stOf (fs : List Fld) : St :=
  ⟨numI fs 1, numI fs 2, numI fs 3, numI fs 4, numI fs 5, (runOf fs).map fun b => (unl b).1, numI fs 6, numI fs 7, numI fs 8, numI fs 9, numI fs 10, ⟨(textAt fs 11).toArray⟩⟩
def allOk (fs : List Fld) : Bool := (runOf fs).all fun b => (unl b).2
def zeroSt : St := ⟨0, 0, 0, 0, 0, [], 0, 0, 0, 0, 0, ⟨#[]⟩⟩
def canD (b : List UInt8) : St × Nat :=
  if (dec b).2.2 ≠ 0 then (zeroSt, (dec b).2.2)
  else if formE (dec b).1 ≠ 0 then (zeroSt, formE (dec b).1)
  else if allOk (dec b).1 = true ∧ validB (stOf (dec b).1) = true then (stOf (dec b).1, 0) else (zeroSt, 40)
/-- Found in a rising list: the one of that tag. -/
theorem find_mem {b : Int} {fs : List Fld} {f : Fld} (hr : rising b fs) (h : f ∈ fs) : findF fs f.tag = some f := by
  induction fs generalizing b with
  | nil => cases h
  | cons g r ih =>
    unfold findF
    rw [List.find?_cons]
    rcases List.mem_cons.1 h with rfl | h
    · simp
    · have h1 := rising_mem hr.2 f h
      rw [decide_eq_false (by omega)]
      exact ih hr.2 h
theorem find_tag {fs : List Fld} {t : Int} {f : Fld} (h : findF fs t = some f) : f ∈ fs ∧ f.tag = t := ⟨List.mem_of_find?_eq_some h, by simpa using List.find?_some h⟩
theorem find_none {fs : List Fld} {t : Int} (h : ∀ f ∈ fs, f.tag ≠ t) : findF fs t = none := List.find?_eq_none.2 fun f hf => by simpa using h f hf
theorem find_snoc {fs : List Fld} {f : Fld} {t : Int} (h : ∀ g ∈ fs, g.tag < f.tag) : findF (fs ++ [f]) t = if f.tag = t then some f else findF fs t := by
  unfold findF
  rw [List.find?_append]
  by_cases ht : f.tag = t
  · rw [if_pos ht]
    have := find_none (fs := fs) (t := t) fun g hg => by have := h g hg; omega
    unfold findF at this
    rw [this]
    simp [ht]
  · rw [if_neg ht]
    simp [ht]
/-- Two rising lists that answer alike are the same. -/
theorem rising_ext {b c : Int} {fs gs : List Fld} (h1 : rising b fs) (h2 : rising c gs) (h : ∀ t, findF fs t = findF gs t) : fs = gs := by
  induction fs generalizing b c gs with
  | nil =>
    cases gs with
    | nil => rfl
    | cons g r =>
      have := h g.tag
      rw [find_mem h2 (List.mem_cons_self ..)] at this
      cases this
  | cons f r ih =>
    cases gs with
    | nil =>
      have := h f.tag
      rw [find_mem h1 (List.mem_cons_self ..)] at this
      cases this
    | cons g q =>
      have hf := find_mem h1 (List.mem_cons_self ..)
      have hg := find_mem h2 (List.mem_cons_self ..)
      have e : f = g := by
        by_cases hlt : f.tag < g.tag
        · have h3 := h f.tag
          rw [hf, find_none fun x hx => by
            rcases List.mem_cons.1 hx with rfl | hx
            · omega
            · have := rising_mem h2.2 x hx; omega] at h3
          cases h3
        · by_cases hgt : g.tag < f.tag
          · have h3 := h g.tag
            rw [hg, find_none fun x hx => by
              rcases List.mem_cons.1 hx with rfl | hx
              · omega
              · have := rising_mem h1.2 x hx; omega] at h3
            cases h3
          · have h4 : f.tag = g.tag := by omega
            have h3 := h f.tag
            rw [hf, h4, hg] at h3
            injection h3
      subst e
      congr 1
      refine ih h1.2 h2.2 fun t => ?_
      by_cases ht : f.tag = t
      · rw [find_none fun x hx => by have := rising_mem h1.2 x hx; omega, find_none fun x hx => by have := rising_mem h2.2 x hx; omega]
      · have h3 := h t
        unfold findF at h3 ⊢
        rw [List.find?_cons, List.find?_cons, decide_eq_false ht] at h3
        exact h3
/-- What a state's own fields answer. -/
theorem find_num {t : Int} {l : List Int} {k : Nat} (hk : k < l.length) : findF (numFs t l) (t + k) = some ⟨t + k, false, toU l[k], []⟩ := by
  induction l generalizing t k with
  | nil => simp at hk
  | cons v r ih =>
    unfold findF
    rw [numFs, List.find?_cons]
    cases k with
    | zero => simp
    | succ k =>
      rw [decide_eq_false (by dsimp only; omega)]
      have := ih (t := t + 1) (k := k) (by simpa using hk)
      rw [show t + 1 + (k : Int) = t + ((k + 1 : Nat) : Int) by omega] at this
      exact this
theorem find_line {t : Int} {l : List Ln} {k : Nat} (hk : k < l.length) : findF (lineFs t l) (t + k) = some ⟨t + k, true, 0, lineB l[k]⟩ := by
  induction l generalizing t k with
  | nil => simp at hk
  | cons v r ih =>
    unfold findF
    rw [lineFs, List.find?_cons]
    cases k with
    | zero => simp
    | succ k =>
      rw [decide_eq_false (by dsimp only; omega)]
      have := ih (t := t + 1) (k := k) (by simpa using hk)
      rw [show t + 1 + (k : Int) = t + ((k + 1 : Nat) : Int) by omega] at this
      exact this
theorem find_filter {b : Int} {fs : List Fld} (hr : rising b fs) (p : Fld → Bool) (t : Int) : findF (fs.filter p) t = match findF fs t with
    | some f => if p f = true then some f else none
    | none => none := by
  cases h : findF fs t with
  | none =>
    refine find_none fun f hf => ?_
    have h1 := List.find?_eq_none.1 h f (List.mem_filter.1 hf).1
    simpa using h1
  | some f =>
    obtain ⟨hm, ht⟩ := find_tag h
    dsimp only
    split
    · rename_i hp
      have := find_mem (rising_filter p hr) (List.mem_filter.2 ⟨hm, hp⟩)
      rw [ht] at this
      exact this
    · rename_i hp
      refine find_none fun g hg hc => hp ?_
      have h1 := find_mem hr (List.mem_filter.1 hg).1
      rw [hc, h] at h1
      injection h1 with h1
      rw [h1]
      exact (List.mem_filter.1 hg).2
theorem find_app {fs gs : List Fld} {t : Int} : findF (fs ++ gs) t = (findF fs t).or (findF gs t) := by unfold findF; exact List.find?_append
theorem all_num (s : St) {k : Nat} (hk : k < 10) : findF (allF s) (1 + k) = some ⟨1 + k, false, toU ((numsOf s)[k]'hk), []⟩ := by
  unfold allF
  rw [find_app, find_num (l := numsOf s) hk]
  rfl
theorem all_who (s : St) : findF (allF s) 11 = some (whoF s) := by
  unfold allF
  rw [find_app, find_none fun f hf => by have := mem_numFs hf; have h2 : (numsOf s).length = 10 := rfl; omega]
  unfold findF
  rw [List.find?_cons]
  rfl
theorem all_line (s : St) {k : Nat} (hk : k < s.lines.length) : findF (allF s) (12 + k) = some ⟨12 + k, true, 0, lineB s.lines[k]⟩ := by
  unfold allF
  rw [find_app, find_none fun f hf => by have := mem_numFs hf; have h2 : (numsOf s).length = 10 := rfl; omega]
  have := find_line (t := 12) hk
  unfold findF at this ⊢
  rw [List.find?_cons, decide_eq_false (by unfold whoF; dsimp only; omega)]
  exact this
theorem all_none (s : St) {t : Int} (h : t < 1 ∨ 12 + s.lines.length ≤ t) : findF (allF s) t = none := by
  refine find_none fun f hf => ?_
  unfold allF at hf
  rw [List.mem_append, List.mem_cons] at hf
  have h2 : (numsOf s).length = 10 := rfl
  rcases hf with hf | rfl | hf
  · have := mem_numFs hf; omega
  · unfold whoF; dsimp only; omega
  · have := mem_lineFs hf; omega
theorem numAt_filter {b : Int} {fs : List Fld} (hr : rising b fs) (t : Int) : cnumAt (fs.filter holds) t = cnumAt fs t := by
  unfold cnumAt
  rw [find_filter hr]
  cases h : findF fs t with
  | none => rfl
  | some f =>
    dsimp only
    by_cases hh : holds f = true
    · rw [if_pos hh]
    · rw [if_neg hh]
      dsimp only
      split
      · rename_i h1
        simp [holds, h1] at hh
        exact hh.symm
      · rfl
theorem textAt_filter {b : Int} {fs : List Fld} (hr : rising b fs) (t : Int) : textAt (fs.filter holds) t = textAt fs t := by
  unfold textAt
  rw [find_filter hr]
  cases h : findF fs t with
  | none => rfl
  | some f =>
    dsimp only
    by_cases hh : holds f = true
    · rw [if_pos hh]
    · rw [if_neg hh]
      dsimp only
      split
      · rename_i h1
        simp [holds, h1] at hh
        exact hh.symm
      · rfl
theorem ref_num (s : St) {k : Nat} (hk : k < 10) : cnumAt (refF s) (1 + k) = toU ((numsOf s)[k]'hk) := by
  unfold refF
  rw [numAt_filter (rising_allF s)]
  unfold cnumAt
  rw [all_num s hk]
  rfl
theorem ref_who (s : St) : textAt (refF s) 11 = s.who.data.toList := by
  unfold refF
  rw [textAt_filter (rising_allF s)]
  unfold textAt
  rw [all_who s]
  rfl
theorem lineB_pos (l : Ln) : lineB l ≠ [] := fun h => by
  have h2 := venc_pos (toU l.item)
  have := congrArg List.length h
  rw [lineB_eq] at this
  simp only [List.length_append, List.length_nil] at this
  omega
theorem ref_line (s : St) {k : Nat} (hk : k < s.lines.length) : textAt (refF s) (12 + k) = lineB s.lines[k] := by
  unfold refF
  rw [textAt_filter (rising_allF s)]
  unfold textAt
  rw [all_line s hk]
  rfl
theorem ref_none (s : St) {t : Int} (h : 12 + s.lines.length ≤ t) : textAt (refF s) t = [] := by
  unfold refF
  rw [textAt_filter (rising_allF s)]
  unfold textAt
  rw [all_none s (.inr h)]
theorem ref_run (s : St) (n k : Nat) (h : s.lines.length ≤ k + n) : runT (refF s) n (12 + k) = (s.lines.drop k).map lineB := by
  induction n generalizing k with
  | zero => rw [List.drop_of_length_le (by omega)]; rfl
  | succ n ih =>
    rw [runT]
    by_cases hk : k < s.lines.length
    · rw [ref_line s hk, if_neg (lineB_pos _), show (12 : Int) + k + 1 = 12 + ((k + 1 : Nat) : Int) by omega, ih (k + 1) (by omega), List.drop_eq_getElem_cons hk]
      rfl
    · rw [ref_none s (by omega), if_pos rfl, List.drop_of_length_le (by omega)]
      rfl
theorem runOf_ref {s : St} (h : VOk s) : runOf (refF s) = s.lines.map lineB := by
  have := ref_run s 16 0 (by have := h.len; omega)
  simpa [runOf] using this
theorem unl_one {v : Int} (h0 : 0 ≤ v) (h1 : v ≤ 4611686018427387904) (n : Nat) (r : List UInt8) : unlV (n + 1) (venc (toU v) ++ r) = (unlV n r).map fun x => (v :: x.1, x.2) := by
  have e := toU_pos h0 (by omega)
  rw [unlV, vdec_enc _ _ (toU_lt v)]
  simp only [ne_eq, not_true_eq_false, if_false, List.drop_left]
  have : ((clampN (toU v) : Nat) : Int) = v := by unfold clampN; rw [e, if_neg (by omega)]; omega
  rw [this]
theorem unl_line {l : Ln} (h : lnB l = true) : unl (lineB l) = (l, true) := by
  rw [lnB_iff] at h
  have : unlV 4 (lineB l) = some ([l.item, l.price, l.qty, l.shipped], []) := by
    rw [lineB_eq, unl_one (by omega) (by omega), unl_one (by omega) (by omega), unl_one (by omega) (by omega)]
    have := unl_one (v := l.shipped) (by omega) (by omega) 0 []
    rw [List.append_nil] at this
    rw [this]
    rfl
  unfold unl
  rw [this]
  rfl
theorem numI_ref {s : St} {k : Nat} (hk : k < 10) (h0 : 0 ≤ (numsOf s)[k]'hk) (h1 : (numsOf s)[k]'hk ≤ 4611686018427387904) : numI (refF s) (1 + k) = (numsOf s)[k]'hk := by
  unfold numI
  rw [ref_num s hk]
  have e := toU_pos h0 (by omega)
  unfold clampN
  rw [e, if_neg (by omega)]
  omega
theorem due_big {s : St} (h : VOk s) : 0 ≤ s.paid ∧ s.paid ≤ 320000000000000 := by
  have h1 := net_bound h.lines_ok
  have h2 := tax_bound h1.1 h.tax.1 h.tax.2
  have h3 := h.len
  have h4 := h.paid
  have h5 := h.refunded
  unfold due at h4
  omega
theorem prior_big {s : St} (h : VOk s) : 0 ≤ s.prior ∧ s.prior ≤ 3 := by
  have h1 := h.prior
  unfold priorB at h1
  split at h1
  · simp at h1; omega
  · simp at h1; omega
theorem stOf_ref {s : St} (h : VOk s) : stOf (refF s) = s := by
  have h2 := h.order; have h3 := h.status; have h4 := h.cur; have h5 := h.tax; have h6 := h.refunded; have h7 := h.events; have h8 := h.refused; have h9 := h.stamp
  have h10 := due_big h; have h11 := prior_big h
  obtain ⟨order, status, prior, cur, tax, lines, paid, refunded, events, refused, stamp, who⟩ := s
  dsimp only at *
  have e1 := numI_ref (s := ⟨order, status, prior, cur, tax, lines, paid, refunded, events, refused, stamp, who⟩) (k := 0) (by decide) (by dsimp [numsOf]; omega) (by dsimp [numsOf]; omega)
  have e2 := numI_ref (s := ⟨order, status, prior, cur, tax, lines, paid, refunded, events, refused, stamp, who⟩) (k := 1) (by decide) (by dsimp [numsOf]; omega) (by dsimp [numsOf]; omega)
  have e3 := numI_ref (s := ⟨order, status, prior, cur, tax, lines, paid, refunded, events, refused, stamp, who⟩) (k := 2) (by decide) (by dsimp [numsOf]; omega) (by dsimp [numsOf]; omega)
  have e4 := numI_ref (s := ⟨order, status, prior, cur, tax, lines, paid, refunded, events, refused, stamp, who⟩) (k := 3) (by decide) (by dsimp [numsOf]; omega) (by dsimp [numsOf]; omega)
  have e5 := numI_ref (s := ⟨order, status, prior, cur, tax, lines, paid, refunded, events, refused, stamp, who⟩) (k := 4) (by decide) (by dsimp [numsOf]; omega) (by dsimp [numsOf]; omega)
  have e6 := numI_ref (s := ⟨order, status, prior, cur, tax, lines, paid, refunded, events, refused, stamp, who⟩) (k := 5) (by decide) (by dsimp [numsOf]; omega) (by dsimp [numsOf]; omega)
  have e7 := numI_ref (s := ⟨order, status, prior, cur, tax, lines, paid, refunded, events, refused, stamp, who⟩) (k := 6) (by decide) (by dsimp [numsOf]; omega) (by dsimp [numsOf]; omega)
  have e8 := numI_ref (s := ⟨order, status, prior, cur, tax, lines, paid, refunded, events, refused, stamp, who⟩) (k := 7) (by decide) (by dsimp [numsOf]; omega) (by dsimp [numsOf]; omega)
  have e9 := numI_ref (s := ⟨order, status, prior, cur, tax, lines, paid, refunded, events, refused, stamp, who⟩) (k := 8) (by decide) (by dsimp [numsOf]; omega) (by dsimp [numsOf]; omega)
  have e10 := numI_ref (s := ⟨order, status, prior, cur, tax, lines, paid, refunded, events, refused, stamp, who⟩) (k := 9) (by decide) (by dsimp [numsOf]; omega) (by dsimp [numsOf]; omega)
  have er := runOf_ref h
  have ew := ref_who ⟨order, status, prior, cur, tax, lines, paid, refunded, events, refused, stamp, who⟩
  replace e1 : numI _ 1 = order := e1
  replace e2 : numI _ 2 = status := e2
  replace e3 : numI _ 3 = prior := e3
  replace e4 : numI _ 4 = cur := e4
  replace e5 : numI _ 5 = tax := e5
  replace e6 : numI _ 6 = paid := e6
  replace e7 : numI _ 7 = refunded := e7
  replace e8 : numI _ 8 = events := e8
  replace e9 : numI _ 9 = refused := e9
  replace e10 : numI _ 10 = stamp := e10
  unfold stOf
  rw [e1, e2, e3, e4, e5, e6, e7, e8, e9, e10, er, ew, List.map_map]
  have hl : lines.map ((fun b => (unl b).1) ∘ lineB) = lines := by
    conv => rhs; rw [← List.map_id lines]
    refine List.map_congr_left fun l hl => ?_
    have := unl_line (h.lines_ok l hl)
    simp [this]
  rw [hl]
theorem canD_enc {s : St} (h : validB s = true) : canD (encR (refF s)) = (s, 0) := by
  have hv := valid_iff.1 h
  unfold canD
  rw [refF_dec hv]
  have hK : lastK (refF s) = 11 + (if s.lines.length < 16 then s.lines.length + 1 else 16 : Nat) := by
    unfold lastK; rw [runOf_ref hv, List.length_map]
  have hl := hv.len
  have ht : ∀ f ∈ refF s, 1 ≤ f.tag ∧ f.tag < 12 + s.lines.length ∧ wrongF f = false := fun f hf => by
    have h1 := (List.mem_filter.1 hf).1
    unfold allF at h1
    rw [List.mem_append, List.mem_cons] at h1
    have h2 : (numsOf s).length = 10 := rfl
    rcases h1 with h1 | rfl | h1
    · obtain ⟨a, b, c, d, e⟩ := mem_numFs h1
      exact ⟨by omega, by omega, by unfold wrongF; rw [c, decide_eq_false (by omega)]; rfl⟩
    · exact ⟨by unfold whoF; dsimp only; omega, by unfold whoF; dsimp only; omega, rfl⟩
    · obtain ⟨a, b, c, d, e⟩ := mem_lineFs h1
      exact ⟨by omega, by omega, by unfold wrongF; rw [c, decide_eq_true (by omega)]; rfl⟩
  have hF : formE (refF s) = 0 := by
    unfold formE
    rw [if_neg, if_neg]
    · simp only [List.any_eq_true, decide_eq_true_eq, not_exists, not_and]
      intro f hf
      have := ht f hf
      rw [hK]
      split <;> omega
    · simp only [List.any_eq_true, and_t, not_exists, not_and]
      intro f hf _
      have := (ht f hf).2.2
      rw [this]
      simp
  have hA : allOk (refF s) = true := by
    unfold allOk
    rw [runOf_ref hv, List.all_map, List.all_eq_true]
    intro l hl
    have := unl_line (hv.lines_ok l hl)
    simp [this]
  simp only [ne_eq, not_true_eq_false, if_false]
  rw [hF, if_neg (by simp), stOf_ref hv, if_pos ⟨hA, h⟩]
theorem unlV_inv {n : Nat} {b : List UInt8} {v : List Int} {r : List UInt8} (h : unlV (n + 1) b = some (v, r)) :
    ∃ u b' v', b = venc u ++ b' ∧ u < 18446744073709551616 ∧ v = ((clampN u : Nat) : Int) :: v' ∧ unlV n b' = some (v', r) := by
  rw [unlV] at h
  split at h
  · cases h
  · rename_i h1
    obtain ⟨⟨u, k, e⟩, hx⟩ : ∃ x, x = vdec b := ⟨_, rfl⟩
    rw [← hx] at h h1
    simp only [ne_eq, Decidable.not_not] at h1
    subst h1
    obtain ⟨b', hb, hk, hu⟩ := vdec_inv hx.symm
    dsimp only at h
    rw [hb, hk, List.drop_left] at h
    cases h2 : unlV n b' with
    | none => rw [h2] at h; cases h
    | some x =>
      rw [h2] at h
      simp only [Option.map_some, Option.some.injEq, Prod.mk.injEq] at h
      exact ⟨u, b', x.1, hb, hu, h.1.symm, by rw [← h.2]; exact h2⟩
theorem toU_clamp {u : Nat} (hu : u < 18446744073709551616) (h : ((clampN u : Nat) : Int) < 4611686018427387904) : toU ((clampN u : Nat) : Int) = u := by
  rw [toU_pos (by omega) (by omega)]
  unfold clampN at *
  split at h
  · omega
  · rename_i h1
    rw [if_neg h1]
    omega
theorem unl_inv {b : List UInt8} (h : (unl b).2 = true) (hl : lnB (unl b).1 = true) : lineB (unl b).1 = b := by
  unfold unl at h hl ⊢
  cases h4 : unlV 4 b with
  | none => rw [h4] at h; cases h
  | some x =>
    obtain ⟨v, r⟩ := x
    rw [h4] at h hl
    dsimp only at h hl ⊢
    obtain rfl : r = [] := by simpa using h
    obtain ⟨u1, b1, v1, e1, hu1, rfl, g1⟩ := unlV_inv h4
    obtain ⟨u2, b2, v2, e2, hu2, rfl, g2⟩ := unlV_inv g1
    obtain ⟨u3, b3, v3, e3, hu3, rfl, g3⟩ := unlV_inv g2
    obtain ⟨u4, b4, v4, e4, hu4, rfl, g4⟩ := unlV_inv g3
    simp only [unlV, Option.some.injEq, Prod.mk.injEq] at g4
    obtain ⟨rfl, rfl⟩ := g4
    rw [lnB_iff] at hl
    rw [lineB_eq]
    have hq : lnOf [((clampN u1 : Nat) : Int), ((clampN u2 : Nat) : Int), ((clampN u3 : Nat) : Int), ((clampN u4 : Nat) : Int)] = ⟨((clampN u1 : Nat) : Int), ((clampN u2 : Nat) : Int), ((clampN u3 : Nat) : Int), ((clampN u4 : Nat) : Int)⟩ := rfl
    rw [hq] at hl ⊢
    dsimp only at hl ⊢
    rw [toU_clamp hu1 (by omega), toU_clamp hu2 (by omega), toU_clamp hu3 (by omega), toU_clamp hu4 (by omega), e1, e2, e3, e4, List.append_nil]
/-- The run: its texts stand under their tags, none empty; the next one is not there. -/
theorem run_at (fs : List Fld) (n : Nat) (t : Int) (k : Nat) (hk : k < (runT fs n t).length) : textAt fs (t + k) = (runT fs n t)[k] ∧ textAt fs (t + k) ≠ [] := by
  induction n generalizing t k with
  | zero => simp [runT] at hk
  | succ n ih =>
    by_cases h : textAt fs t = []
    · rw [runT, if_pos h] at hk; simp at hk
    · have e : runT fs (n + 1) t = textAt fs t :: runT fs n (t + 1) := by rw [runT, if_neg h]
      simp only [e] at hk ⊢
      cases k with
      | zero => simp; exact h
      | succ k =>
        have := ih (t + 1) k (by simpa using hk)
        rw [show t + ((k + 1 : Nat) : Int) = t + 1 + k by omega]
        simpa using this
theorem run_len (fs : List Fld) (n : Nat) (t : Int) : (runT fs n t).length ≤ n := by
  induction n generalizing t with
  | zero => simp [runT]
  | succ n ih =>
    rw [runT]
    split
    · simp
    · simp [ih]
theorem run_end (fs : List Fld) (n : Nat) (t : Int) (h : (runT fs n t).length < n) : textAt fs (t + (runT fs n t).length) = [] := by
  induction n generalizing t with
  | zero => simp at h
  | succ n ih =>
    by_cases h0 : textAt fs t = []
    · rw [runT, if_pos h0]; simpa using h0
    · have e : runT fs (n + 1) t = textAt fs t :: runT fs n (t + 1) := by rw [runT, if_neg h0]
      rw [e] at h ⊢
      have := ih (t + 1) (by simpa using h)
      rw [List.length_cons, show t + (((runT fs n (t + 1)).length + 1 : Nat) : Int) = t + 1 + ((runT fs n (t + 1)).length : Nat) by omega]
      exact this
theorem formE_zero {fs : List Fld} (h : formE fs = 0) : ∀ f ∈ fs, f.tag ≤ lastK fs ∧ wrongF f = false := by
  unfold formE at h
  split at h
  · cases h
  rename_i h1
  split at h
  · cases h
  rename_i h2
  intro f hf
  simp only [List.any_eq_true, decide_eq_true_eq, not_exists, not_and] at h2
  simp only [List.any_eq_true, and_t, decide_eq_true_eq, not_exists, not_and] at h1
  have h3 := h2 f hf
  have h4 := h1 f hf (by omega)
  exact ⟨by omega, by simpa using h4⟩
theorem numsOf_big {s : St} (h : VOk s) : ∀ v ∈ numsOf s, 0 ≤ v ∧ v < 4611686018427387904 := by
  have h2 := h.order; have h3 := h.status; have h4 := h.cur; have h5 := h.tax; have h6 := h.refunded; have h7 := h.events; have h8 := h.refused; have h9 := h.stamp
  have h10 := due_big h; have h11 := prior_big h
  intro v hv
  simp only [numsOf, List.mem_cons, List.not_mem_nil, or_false] at hv
  rcases hv with rfl | rfl | rfl | rfl | rfl | rfl | rfl | rfl | rfl | rfl <;> omega
theorem nums_stOf (fs : List Fld) {k : Nat} (hk : k < 10) : (numsOf (stOf fs))[k]'hk = numI fs (1 + k) := by
  have : k = 0 ∨ k = 1 ∨ k = 2 ∨ k = 3 ∨ k = 4 ∨ k = 5 ∨ k = 6 ∨ k = 7 ∨ k = 8 ∨ k = 9 := by omega
  rcases this with rfl | rfl | rfl | rfl | rfl | rfl | rfl | rfl | rfl | rfl <;> rfl
theorem numAt_lt {fs : List Fld} (hw : FWf fs) (t : Int) : cnumAt fs t < 18446744073709551616 := by
  unfold cnumAt
  split
  · rename_i f h
    have := (hw f (find_tag h).1).2.2
    split <;> omega
  · omega
theorem back_eq {fs : List Fld} (hf : faults 0 fs = 0) (hw : FWf fs) (hp : ∀ f ∈ fs, f.plain) (h1 : formE fs = 0) (h2 : allOk fs = true) (h3 : VOk (stOf fs)) : refF (stOf fs) = fs := by
  have hr := rising_of_faults hf
  have hok : ∀ f ∈ fs, 1 ≤ f.tag ∧ (f.text = true → f.bytes ≠ []) ∧ (f.text = false → f.num ≠ 0) := by
    have key : ∀ (fs : List Fld) (last : Int), faults last fs = 0 → ∀ f ∈ fs, 1 ≤ f.tag ∧ (f.text = true → f.bytes ≠ []) ∧ (f.text = false → f.num ≠ 0) := by
      intro fs
      induction fs with
      | nil => intro _ _ f hf; cases hf
      | cons g r ih =>
        intro last h f hf
        simp only [faults] at h
        split at h
        · omega
        · rename_i h0
          rcases List.mem_cons.1 hf with rfl | hf
          · obtain ⟨a, b, c, d, e⟩ := fault_ok (by omega : fault f last = 0)
            exact ⟨a, fun h hc => (by have := (d h).1; rw [hc] at this; simp at this), fun h => by have := e h; omega⟩
          · exact ih g.tag h f hf
    exact key fs 0 hf
  have hform := formE_zero h1
  have hlen : (stOf fs).lines.length = (runOf fs).length := by simp [stOf]
  have hbig := numsOf_big h3
  refine rising_ext (refF_rises _) hr fun t => ?_
  unfold refF
  rw [find_filter (rising_allF _)]
  by_cases ht : t < 1 ∨ 12 + (stOf fs).lines.length ≤ t
  · rw [all_none _ ht]
    refine (find_none fun f hf hc => ?_).symm
    have a := hok f hf
    obtain ⟨b, c⟩ := hform f hf
    unfold lastK at b
    rw [hlen] at ht
    split at b
    · rename_i h16
      have e : f.tag = 12 + ((runOf fs).length : Nat) := by omega
      have h5 := run_end fs 16 12 h16
      have h6 := find_mem hr hf
      have h7 : f.text = true := by unfold wrongF at c; rw [decide_eq_true (by omega)] at c; simpa using c
      unfold textAt at h5
      rw [show (12 : Int) + ((runT fs 16 12).length : Nat) = f.tag by rw [e]; rfl, h6] at h5
      dsimp only at h5
      rw [if_pos h7] at h5
      exact a.2.1 h7 h5
    · omega
  · by_cases h10 : t ≤ 10
    · obtain ⟨k, rfl⟩ : ∃ k : Nat, t = 1 + k := ⟨(t - 1).toNat, by omega⟩
      have hk : k < 10 := by omega
      rw [all_num _ hk]
      have hb := hbig _ (List.getElem_mem (l := numsOf (stOf fs)) hk)
      rw [nums_stOf fs hk] at hb ⊢
      have e : toU (numI fs (1 + k)) = cnumAt fs (1 + k) := toU_clamp (numAt_lt hw _) hb.2
      rw [e]
      cases hF : findF fs (1 + k) with
      | none =>
        have : cnumAt fs (1 + k) = 0 := by unfold cnumAt; rw [hF]
        rw [this]
        rfl
      | some f =>
        obtain ⟨hm, htg⟩ := find_tag hF
        have h7 : f.text = false := by have c := (hform f hm).2; unfold wrongF at c; rw [decide_eq_false (by omega)] at c; simpa using c
        have e2 : cnumAt fs (1 + k) = f.num := by unfold cnumAt; rw [hF]; dsimp only; rw [if_pos h7]
        have h8 := (hok f hm).2.2 h7
        have h9 := (hp f hm).2 h7
        rw [e2]
        obtain ⟨tag, text, num, bytes⟩ := f
        dsimp only at *
        subst h7 h9 htg
        rw [if_pos (by simp [holds]; exact h8)]
    · by_cases h11 : t = 11
      · subst h11
        rw [all_who]
        have e : whoF (stOf fs) = ⟨11, true, 0, textAt fs 11⟩ := by simp [whoF, stOf]
        rw [e]
        cases hF : findF fs 11 with
        | none =>
          have : textAt fs 11 = [] := by unfold textAt; rw [hF]
          rw [this]
          rfl
        | some f =>
          obtain ⟨hm, htg⟩ := find_tag hF
          have h7 : f.text = true := by have c := (hform f hm).2; unfold wrongF at c; rw [decide_eq_true (by omega)] at c; simpa using c
          have e2 : textAt fs 11 = f.bytes := by unfold textAt; rw [hF]; dsimp only; rw [if_pos h7]
          have h8 := (hok f hm).2.1 h7
          have h9 := (hp f hm).1 h7
          rw [e2]
          obtain ⟨tag, text, num, bytes⟩ := f
          dsimp only at *
          subst h7 h9 htg
          rw [if_pos (by simp [holds]; exact h8)]
      · obtain ⟨k, rfl⟩ : ∃ k : Nat, t = 12 + k := ⟨(t - 12).toNat, by omega⟩
        have hk : k < (stOf fs).lines.length := by omega
        have hk2 : k < (runT fs 16 12).length := by have := hk; rw [hlen] at this; exact this
        rw [all_line _ hk]
        obtain ⟨r1, r2⟩ := run_at fs 16 12 k hk2
        have e : lineB ((stOf fs).lines[k]) = textAt fs (12 + k) := by
          have e1 : (stOf fs).lines[k] = (unl (runT fs 16 12)[k]).1 := by simp [stOf, runOf]
          have h5 : (unl (runT fs 16 12)[k]).2 = true := by
            unfold allOk runOf at h2
            exact List.all_eq_true.1 h2 _ (List.getElem_mem hk2)
          have h6 : lnB (unl (runT fs 16 12)[k]).1 = true := by rw [← e1]; exact h3.lines_ok _ (List.getElem_mem hk)
          rw [e1, unl_inv h5 h6, r1]
        rw [e]
        cases hF : findF fs (12 + k) with
        | none =>
          have : textAt fs (12 + k) = [] := by unfold textAt; rw [hF]
          exact absurd this r2
        | some f =>
          obtain ⟨hm, htg⟩ := find_tag hF
          have h7 : f.text = true := by have c := (hform f hm).2; unfold wrongF at c; rw [decide_eq_true (by omega)] at c; simpa using c
          have e2 : textAt fs (12 + k) = f.bytes := by unfold textAt; rw [hF]; dsimp only; rw [if_pos h7]
          have h8 := (hok f hm).2.1 h7
          have h9 := (hp f hm).1 h7
          rw [e2]
          obtain ⟨tag, text, num, bytes⟩ := f
          dsimp only at *
          subst h7 h9 htg
          rw [if_pos (by simp [holds]; exact h8)]
theorem canD_inv {b : List UInt8} (h : (canD b).2 = 0) : validB (canD b).1 = true ∧ encR (refF (canD b).1) = b := by
  unfold canD at h ⊢
  split at h
  · rename_i h1; exact absurd h h1
  rename_i h1
  split at h
  · rename_i h2; exact absurd h h2
  rename_i h2
  split at h
  · rename_i h3
    rw [if_neg h1, if_neg h2, if_pos h3]
    obtain ⟨i1, i2, i3, i4, i5, i6, i7, i8⟩ := dec_inv (b := b) (by simpa using h1)
    refine ⟨h3.2, ?_⟩
    dsimp only
    rw [back_eq i7 i3 i4 (by simpa using h2) h3.1 (valid_iff.1 h3.2), i1]
  · cases h
theorem canD_bad {b : List UInt8} (h : (canD b).2 ≠ 0) : (canD b).1 = zeroSt := by
  unfold canD at h ⊢
  split
  · rfl
  split
  · rfl
  split
  · rename_i h1 h2 h3
    rw [if_neg h1, if_neg h2, if_pos h3] at h
    exact absurd rfl h
  · rfl
end Go.Proofs.YtjajbbgebblalaaGreatDoor
