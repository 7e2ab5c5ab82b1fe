/-
  The plain law of records of fields: what is written is read, and what is read is what would be written. No program in sight.
-/
import Derived.Test.YtjajbbgebblalaaGreatDoorVarP
namespace Go.Proofs.YtjajbbgebblalaaGreatDoor
open Go.RowKit
set_option linter.unusedVariables false
set_option linter.unusedSimpArgs false
structure Fld where
  tag : Int
  text : Bool
  num : Nat
  bytes : List UInt8
def Fld.wf (f : Fld) : Prop := -9223372036854775808 ≤ f.tag ∧ f.tag ≤ 9223372036854775807 ∧ f.num < 18446744073709551616
def FWf (fs : List Fld) : Prop := ∀ f ∈ fs, f.wf
def noFld : Fld := ⟨0, false, 0, []⟩
/-- What is wrong with a field behind one of the tag last. -/
def fault (f : Fld) (last : Int) : Nat :=
  if f.tag < 1 ∨ 31 < f.tag then 20
  else if f.tag ≤ last then 21
  else if f.text = true then (if f.bytes.length = 0 then 22 else if 200 < f.bytes.length then 23 else 0)
  else if f.num = 0 then 22 else 0
def one (f : Fld) : List UInt8 :=
  if f.text = true then venc (f.tag.toNat * 2 + 1) ++ (venc f.bytes.length ++ f.bytes) else venc (f.tag.toNat * 2) ++ venc f.num
def encB (fs : List Fld) : List UInt8 := fs.flatMap one
def faults : Int → List Fld → Nat
  | _, [] => 0
  | last, f :: r => if fault f last ≠ 0 then fault f last else faults f.tag r
def encE (fs : List Fld) : Nat := if faults 0 fs ≠ 0 then faults 0 fs else if 1024 < (encB fs).length then 24 else 0
def encR (fs : List Fld) : List UInt8 := if encE fs = 0 then encB fs else []
def lastT (fs : List Fld) : Int := match fs.getLast? with
  | some f => f.tag
  | none => 0
theorem lastT_nil : lastT [] = 0 := rfl
theorem lastT_snoc (fs : List Fld) (f : Fld) : lastT (fs ++ [f]) = f.tag := by simp [lastT]
theorem encB_nil : encB [] = [] := rfl
theorem encB_cons (f : Fld) (fs : List Fld) : encB (f :: fs) = one f ++ encB fs := by simp [encB]
theorem encB_app (fs gs : List Fld) : encB (fs ++ gs) = encB fs ++ encB gs := by simp [encB]
theorem encB_snoc (fs : List Fld) (f : Fld) : encB (fs ++ [f]) = encB fs ++ one f := by simp [encB]
theorem fault_ok {f : Fld} {last : Int} (h : fault f last = 0) : 1 ≤ f.tag ∧ f.tag ≤ 31 ∧ last < f.tag ∧ (f.text = true → 0 < f.bytes.length ∧ f.bytes.length ≤ 200) ∧ (f.text = false → 0 < f.num) := by
  unfold fault at h
  split at h
  · cases h
  split at h
  · cases h
  split at h
  · rename_i h3
    split at h
    · cases h
    split at h
    · cases h
    exact ⟨by omega, by omega, by omega, fun _ => by omega, fun h4 => by rw [h3] at h4; cases h4⟩
  · rename_i h3
    split at h
    · cases h
    exact ⟨by omega, by omega, by omega, fun h4 => absurd h4 h3, fun _ => by omega⟩
theorem fault_of {f : Fld} {last : Int} (h1 : 1 ≤ f.tag) (h2 : f.tag ≤ 31) (h3 : last < f.tag) (h4 : f.text = true → 0 < f.bytes.length ∧ f.bytes.length ≤ 200) (h5 : f.text = false → 0 < f.num) : fault f last = 0 := by
  unfold fault
  rw [if_neg (by omega), if_neg (by omega)]
  split
  · rename_i h; have := h4 h; rw [if_neg (by omega), if_neg (by omega)]
  · rename_i h; have := h5 (by simpa using h); rw [if_neg (by omega)]
theorem one_len {f : Fld} {last : Int} (hw : f.wf) (h : fault f last = 0) : (one f).length ≤ 220 ∧ 1 < (one f).length := by
  obtain ⟨h1, h2, _, h4, h5⟩ := fault_ok h
  unfold one
  have p1 := venc_pos (f.tag.toNat * 2)
  have p2 := venc_pos (f.tag.toNat * 2 + 1)
  have p3 := venc_pos f.num
  have p4 := venc_pos f.bytes.length
  have q1 := venc_len10 (f.tag.toNat * 2) (by omega)
  have q2 := venc_len10 (f.tag.toNat * 2 + 1) (by omega)
  have q3 := venc_len10 f.num hw.2.2
  split
  · rename_i h
    have := h4 h
    have q4 := venc_len10 f.bytes.length (by omega)
    simp only [List.length_append]
    omega
  · simp only [List.length_append]
    omega
theorem faults_app (last : Int) (fs gs : List Fld) : faults last (fs ++ gs) = if faults last fs ≠ 0 then faults last fs else faults (if fs = [] then last else lastT fs) gs := by
  induction fs generalizing last with
  | nil => simp [faults]
  | cons f r ih =>
    simp only [List.cons_append, faults]
    by_cases h : fault f last = 0
    · simp only [h, ne_eq, not_true_eq_false, if_false, ih]
      by_cases hr : r = []
      · subst hr; simp [faults, lastT]
      · rw [if_neg hr, if_neg (List.cons_ne_nil _ _)]
        have : lastT (f :: r) = lastT r := by
          unfold lastT
          rw [List.getLast?_cons]
          cases hh : r.getLast? with
          | none => simp at hh; exact absurd hh hr
          | some x => simp
        rw [this]
    · simp [h]
theorem faults_snoc {fs : List Fld} {f : Fld} (h : faults 0 fs = 0) : faults 0 (fs ++ [f]) = fault f (lastT fs) := by
  rw [faults_app, if_neg (by simp [h])]
  have : (if fs = [] then (0 : Int) else lastT fs) = lastT fs := by
    split
    · rename_i h; subst h; rfl
    · rfl
  rw [this]
  simp only [faults]
  split
  · rfl
  · rename_i h; simpa using Eq.symm (by simpa using h)
theorem faults_bad {fs gs : List Fld} (h : faults 0 fs ≠ 0) : faults 0 (fs ++ gs) = faults 0 fs := by
  rw [faults_app, if_pos h]
theorem take_snocF (l : List Fld) (k : Nat) (h : k < l.length) : l.take (k + 1) = l.take k ++ [l[k]] := List.take_succ_eq_append_getElem h
theorem faults_take {fs : List Fld} {k : Nat} (hk : k < fs.length) (h0 : faults 0 (fs.take k) = 0) (h1 : fault fs[k] (lastT (fs.take k)) ≠ 0) : faults 0 fs = fault fs[k] (lastT (fs.take k)) := by
  have h2 : fs = fs.take (k + 1) ++ fs.drop (k + 1) := (List.take_append_drop _ _).symm
  have h3 : faults 0 (fs.take (k + 1)) = fault fs[k] (lastT (fs.take k)) := by rw [take_snocF fs k hk, faults_snoc h0]
  have h4 := faults_bad (fs := fs.take (k + 1)) (gs := fs.drop (k + 1)) (by rw [h3]; exact h1)
  rw [← h2, h3] at h4
  exact h4
/-- Fields without a fault: their tags rise, so they are few and their bytes are bounded. -/
theorem faults_bound (fs : List Fld) (hw : FWf fs) (h : faults 0 fs = 0) : (fs.length : Int) ≤ lastT fs ∧ lastT fs ≤ 31 ∧ (encB fs).length ≤ 220 * fs.length := by
  have key : ∀ (n : Nat) (fs : List Fld), fs.length = n → FWf fs → faults 0 fs = 0 → (fs.length : Int) ≤ lastT fs ∧ lastT fs ≤ 31 ∧ (encB fs).length ≤ 220 * fs.length := by
    intro n
    induction n with
    | zero =>
      intro fs hl _ _
      have := List.eq_nil_of_length_eq_zero hl
      subst this
      simp [lastT, encB]
    | succ n ih =>
      intro fs hl hw h
      have hk : n < fs.length := by omega
      have e : fs = fs.take n ++ [fs[n]] := by rw [← take_snocF fs n hk, List.take_of_length_le (by omega)]
      have h0 : faults 0 (fs.take n) = 0 := by
        by_cases hb : faults 0 (fs.take n) = 0
        · exact hb
        · have := faults_bad (gs := [fs[n]]) hb
          rw [← e, h] at this
          exact this.symm
      have h1 : fault fs[n] (lastT (fs.take n)) = 0 := by
        have := faults_snoc (f := fs[n]) h0
        rw [← e, h] at this
        exact this.symm
      obtain ⟨i1, i2, i3⟩ := ih (fs.take n) (by simp; omega) (fun f hf => hw f (List.mem_of_mem_take hf)) h0
      have h2 := fault_ok h1
      have h3 := one_len (hw fs[n] (List.getElem_mem _)) h1
      have i4 : (List.take n fs).length = n := by simp; omega
      have e1 : lastT fs = fs[n].tag := by
        have := lastT_snoc (fs.take n) fs[n]
        rwa [← e] at this
      have e2 : encB fs = encB (fs.take n) ++ one fs[n] := by
        have := encB_snoc (fs.take n) fs[n]
        rwa [← e] at this
      rw [e1, e2, List.length_append]
      rw [i4] at i1 i3
      omega
  exact key _ fs rfl hw h

/-- The field with which b begins, behind one of the tag last; its bytes; the fault. -/
def next (b : List UInt8) (last : Int) : Fld × Nat × Nat :=
  let k := vdec b
  if k.2.2 ≠ 0 then (noFld, 0, k.2.2)
  else if k.1 < 2 ∨ 63 < k.1 then (noFld, 0, 20)
  else if ((k.1 / 2 : Nat) : Int) ≤ last then (noFld, 0, 21)
  else
    let u := vdec (b.drop k.2.1)
    if u.2.2 ≠ 0 then (noFld, 0, u.2.2)
    else if u.1 = 0 then (noFld, 0, 22)
    else if k.1 % 2 = 0 then (⟨((k.1 / 2 : Nat) : Int), false, u.1, []⟩, k.2.1 + u.2.1, 0)
    else if 200 < u.1 then (noFld, 0, 23)
    else if b.length - k.2.1 - u.2.1 < u.1 then (noFld, 0, 10)
    else (⟨((k.1 / 2 : Nat) : Int), true, 0, (b.drop (k.2.1 + u.2.1)).take u.1⟩, k.2.1 + u.2.1 + u.1, 0)
/-- A field without what means nothing. -/
def Fld.plain (f : Fld) : Prop := (f.text = true → f.num = 0) ∧ (f.text = false → f.bytes = [])
def strip (f : Fld) : Fld := ⟨f.tag, f.text, if f.text = true then 0 else f.num, if f.text = true then f.bytes else []⟩
theorem one_strip (f : Fld) : one (strip f) = one f := by unfold one strip; cases f.text <;> simp
theorem strip_plain {f : Fld} (h : f.plain) : strip f = f := by
  obtain ⟨tag, text, num, bytes⟩ := f
  unfold Fld.plain at h
  cases text <;> simp_all [strip]
theorem next_one {f : Fld} {last : Int} (hw : f.wf) (h : fault f last = 0) (r : List UInt8) : next (one f ++ r) last = (strip f, (one f).length, 0) := by
  obtain ⟨h1, h2, h3, h4, h5⟩ := fault_ok h
  unfold next
  cases ht : f.text with
  | false =>
    have e : one f = venc (f.tag.toNat * 2) ++ venc f.num := by simp [one, ht]
    rw [e, List.append_assoc, vdec_enc _ _ (by omega)]
    simp only [List.drop_left, ne_eq, not_true_eq_false, if_false]
    rw [if_neg (by omega), if_neg (by omega), vdec_enc _ _ hw.2.2]
    simp only [not_true_eq_false, if_false]
    have := h5 ht
    rw [if_neg (by omega), if_pos (by omega)]
    simp only [strip, ht, List.length_append, Prod.mk.injEq, Fld.mk.injEq, and_true, if_false, Bool.false_eq_true]
    simp; omega
  | true =>
    have e : one f = venc (f.tag.toNat * 2 + 1) ++ (venc f.bytes.length ++ f.bytes) := by simp [one, ht]
    have h6 := h4 ht
    rw [e, List.append_assoc, vdec_enc _ _ (by omega)]
    simp only [List.drop_left, ne_eq, not_true_eq_false, if_false]
    rw [if_neg (by omega), if_neg (by omega), List.append_assoc, vdec_enc _ _ (by omega)]
    simp only [not_true_eq_false, if_false]
    rw [if_neg (by omega), if_neg (by omega), if_neg (by omega), if_neg (by simp only [List.length_append]; omega)]
    have hd : List.drop ((venc (f.tag.toNat * 2 + 1)).length + (venc f.bytes.length).length) (venc (f.tag.toNat * 2 + 1) ++ (venc f.bytes.length ++ (f.bytes ++ r))) = f.bytes ++ r := by
      rw [← List.append_assoc, ← List.length_append, List.drop_left]
    rw [hd, List.take_left]
    simp only [strip, ht, List.length_append, Prod.mk.injEq, Fld.mk.injEq, and_true, if_true]
    exact ⟨by omega, by omega⟩
theorem next_inv {b : List UInt8} {last : Int} {f : Fld} {n : Nat} (h : next b last = (f, n, 0)) (hl : 0 ≤ last) : ∃ r, b = one f ++ r ∧ n = (one f).length ∧ f.wf ∧ f.plain ∧ fault f last = 0 := by
  unfold next at h
  simp only at h
  split at h
  · rename_i h1; simp at h; exact absurd h.2.2 h1
  rename_i h1
  split at h
  · simp at h
  rename_i h2
  split at h
  · simp at h
  rename_i h3
  split at h
  · rename_i h4; simp at h; exact absurd h.2.2 h4
  rename_i h4
  obtain ⟨⟨k, n1, e1⟩, hk⟩ : ∃ x, x = vdec b := ⟨_, rfl⟩
  rw [← hk] at h1 h2 h3 h4 h
  simp only [ne_eq, Decidable.not_not] at h1
  subst h1
  obtain ⟨r1, hb1, hn1, hk1⟩ := vdec_inv hk.symm
  have hd : b.drop n1 = r1 := by rw [hb1, hn1, List.drop_left]
  simp only [hd] at h4 h
  obtain ⟨⟨u, n2, e2⟩, hu⟩ : ∃ x, x = vdec r1 := ⟨_, rfl⟩
  rw [← hu] at h4 h
  simp only [ne_eq, Decidable.not_not] at h4
  subst h4
  obtain ⟨r2, hb2, hn2, hu2⟩ := vdec_inv hu.symm
  simp only at h h2 h3
  split at h
  · simp at h
  rename_i h5
  split at h
  · rename_i h6
    simp only [Prod.mk.injEq, and_true] at h
    obtain ⟨rfl, rfl⟩ := h
    have e : one ⟨((k / 2 : Nat) : Int), false, u, []⟩ = venc k ++ venc u := by
      simp only [one, Bool.false_eq_true, if_false]
      congr 2
      omega
    refine ⟨r2, by rw [e, hb1, hb2, List.append_assoc], by rw [e, hn1, hn2, List.length_append], ⟨by dsimp only; omega, by dsimp only; omega, hu2⟩, ⟨(fun h => by cases h), fun _ => rfl⟩, fault_of (by dsimp only; omega) (by dsimp only; omega) (by dsimp only; omega) (fun h => by cases h) (fun _ => by dsimp only; omega)⟩
  · rename_i h6
    split at h
    · simp at h
    rename_i h7
    split at h
    · simp at h
    rename_i h8
    simp only [Prod.mk.injEq, and_true] at h
    obtain ⟨rfl, rfl⟩ := h
    have hr2 : b.drop (n1 + n2) = r2 := by rw [← List.drop_drop, hd, hb2, hn2, List.drop_left]
    have hl2 : u ≤ r2.length := by
      have : b.length = n1 + (n2 + r2.length) := by rw [hb1, hb2, hn1, hn2, List.length_append, List.length_append]
      omega
    have hlen : (List.take u r2).length = u := by simp; omega
    have e : one ⟨((k / 2 : Nat) : Int), true, 0, (b.drop (n1 + n2)).take u⟩ = venc k ++ (venc u ++ r2.take u) := by
      simp only [one, if_true, hr2, hlen]
      congr 2
      omega
    refine ⟨r2.drop u, ?_, ?_, ⟨by dsimp only; omega, by dsimp only; omega, by dsimp only; omega⟩, ⟨fun _ => rfl, (fun h => by cases h)⟩, fault_of (by dsimp only; omega) (by dsimp only; omega) (by dsimp only; omega) (fun _ => ?_) (fun h => by cases h)⟩
    · rw [e, List.append_assoc, List.append_assoc, List.take_append_drop, ← hb2, ← hb1]
    · rw [e, List.length_append, List.length_append, hlen, hn1, hn2]; omega
    · dsimp only
      rw [hr2, hlen]
      omega

theorem next_pos {b : List UInt8} {last : Int} {f : Fld} {n : Nat} (h : next b last = (f, n, 0)) (hl : 0 ≤ last) : 1 < n ∧ n ≤ b.length ∧ last < f.tag ∧ f.tag ≤ 31 := by
  obtain ⟨r, hb, hn, hw, _, hf⟩ := next_inv h hl
  have h1 := one_len hw hf
  have h2 := fault_ok hf
  have := congrArg List.length hb
  rw [List.length_append] at this
  omega
/-- The fields of b from the place at on: a stretch behind one of the tag last, by fuel. -/
def decF : Nat → List UInt8 → Int → Nat → List Fld × Nat × Nat
  | 0, _, _, _ => ([], 0, 0)
  | fuel + 1, b, last, at_ =>
    if b = [] then ([], 0, 0)
    else
      let x := next b last
      if x.2.2 ≠ 0 then ([], at_, x.2.2)
      else
        let y := decF fuel (b.drop x.2.1) x.1.tag (at_ + x.2.1)
        if y.2.2 ≠ 0 then ([], y.2.1, y.2.2) else (x.1 :: y.1, 0, 0)
def dec (b : List UInt8) : List Fld × Nat × Nat := if 1024 < b.length then ([], 0, 24) else decF (b.length + 1) b 0 0
theorem decF_fuel (fuel fuel' : Nat) (b : List UInt8) (last : Int) (at_ : Nat) (hl : 0 ≤ last) (h : b.length < fuel) (h' : b.length < fuel') : decF fuel b last at_ = decF fuel' b last at_ := by
  induction fuel generalizing fuel' b last at_ with
  | zero => omega
  | succ n ih =>
    cases fuel' with
    | zero => omega
    | succ m =>
      simp only [decF]
      split
      · rfl
      split
      · rfl
      rename_i h1 h2
      obtain ⟨⟨f, k, e⟩, hx⟩ : ∃ x, x = next b last := ⟨_, rfl⟩
      rw [← hx] at h2 ⊢
      simp only [ne_eq, Decidable.not_not] at h2
      subst h2
      obtain ⟨p1, p2, p3, p4⟩ := next_pos hx.symm hl
      simp only
      rw [ih m (b.drop k) f.tag (at_ + k) (by omega) (by simp; omega) (by simp; omega)]
/-- Decoding from the place at on. -/
def decA (b : List UInt8) (last : Int) (at_ : Nat) : List Fld × Nat × Nat := decF (b.length + 1) (b.drop at_) last at_
theorem decA_end {b : List UInt8} {last : Int} {at_ : Nat} (h : b.length ≤ at_) : decA b last at_ = ([], 0, 0) := by
  unfold decA decF
  rw [if_pos (List.drop_of_length_le h)]
theorem decA_bad {b : List UInt8} {last : Int} {at_ : Nat} (h : at_ < b.length) (hb : (next (b.drop at_) last).2.2 ≠ 0) : decA b last at_ = ([], at_, (next (b.drop at_) last).2.2) := by
  unfold decA decF
  rw [if_neg (fun hc => by have := congrArg List.length hc; simp at this; omega)]
  simp only
  rw [if_pos hb]
theorem decA_ok {b : List UInt8} {last : Int} {at_ n : Nat} {f : Fld} (hl : 0 ≤ last) (h : at_ < b.length) (hb : next (b.drop at_) last = (f, n, 0)) :
    decA b last at_ = if (decA b f.tag (at_ + n)).2.2 ≠ 0 then ([], (decA b f.tag (at_ + n)).2.1, (decA b f.tag (at_ + n)).2.2) else (f :: (decA b f.tag (at_ + n)).1, 0, 0) := by
  obtain ⟨p1, p2, p3, p4⟩ := next_pos hb hl
  have e : decA b f.tag (at_ + n) = decF b.length ((b.drop at_).drop n) f.tag (at_ + n) := by
    unfold decA
    rw [List.drop_drop]
    exact decF_fuel _ _ _ _ _ (by omega) (by simp; omega) (by simp; omega)
  rw [e]
  unfold decA
  rw [decF]
  rw [if_neg (fun hc => by have := congrArg List.length hc; simp at this; omega), hb]
  simp only [ne_eq, not_true_eq_false, if_false]
theorem dec_eq (b : List UInt8) : dec b = if 1024 < b.length then ([], 0, 24) else decA b 0 0 := by unfold dec decA; simp
theorem decF_form (fuel : Nat) (b : List UInt8) (last : Int) (at_ : Nat) : ((decF fuel b last at_).2.2 ≠ 0 → (decF fuel b last at_).1 = []) ∧ ((decF fuel b last at_).2.2 = 0 → (decF fuel b last at_).2.1 = 0) := by
  cases fuel with
  | zero => simp [decF]
  | succ n =>
    simp only [decF]
    split
    · simp
    split
    · rename_i h; simp only [ne_eq] at h; simp [h]
    split
    · rename_i h; simp only [ne_eq] at h; simp [h]
    · simp
theorem decA_form (b : List UInt8) (last : Int) (at_ : Nat) : ((decA b last at_).2.2 ≠ 0 → (decA b last at_).1 = []) ∧ ((decA b last at_).2.2 = 0 → (decA b last at_).2.1 = 0) := decF_form _ _ _ _
/-- The tag behind the fields fs, which lie behind the tag last. -/
def lastB (last : Int) (fs : List Fld) : Int := if fs = [] then last else lastT fs
theorem lastB_cons (last : Int) (f : Fld) (r : List Fld) : lastB last (f :: r) = lastB f.tag r := by
  unfold lastB
  rw [if_neg (List.cons_ne_nil _ _)]
  cases r with
  | nil => rfl
  | cons g r => simp [lastT, List.getLast?_cons_cons]
/-- What is written is read, and the reading goes on behind it. -/
theorem decA_enc (pre : List UInt8) (fs : List Fld) (post : List UInt8) (last : Int) (hl : 0 ≤ last) (hw : FWf fs) (h : faults last fs = 0) :
    decA (pre ++ (encB fs ++ post)) last pre.length =
      if (decA (pre ++ (encB fs ++ post)) (lastB last fs) (pre.length + (encB fs).length)).2.2 ≠ 0 then decA (pre ++ (encB fs ++ post)) (lastB last fs) (pre.length + (encB fs).length) else
      (fs.map strip ++ (decA (pre ++ (encB fs ++ post)) (lastB last fs) (pre.length + (encB fs).length)).1, 0, 0) := by
  induction fs generalizing pre last with
  | nil =>
    have hF := decA_form (pre ++ (encB [] ++ post)) last pre.length
    simp only [encB_nil, List.nil_append, lastB, if_true, List.length_nil, Nat.add_zero, List.map_nil] at hF ⊢
    generalize decA (pre ++ post) last pre.length = y at hF ⊢
    obtain ⟨fs, a, e⟩ := y
    by_cases he : e = 0
    · subst he; simp at hF ⊢; exact hF
    · simp [he]
  | cons f r ih =>
    have hf : fault f last = 0 := by
      simp only [faults] at h
      split at h
      · omega
      · omega
    have hr : faults f.tag r = 0 := by
      simp only [faults] at h
      rw [if_neg (by omega)] at h
      exact h
    have hfw := hw f (List.mem_cons_self ..)
    have ho := one_len hfw hf
    have ht := fault_ok hf
    have e1 : pre ++ (encB (f :: r) ++ post) = (pre ++ one f) ++ (encB r ++ post) := by rw [encB_cons]; simp only [List.append_assoc]
    have hn : next ((pre ++ (encB (f :: r) ++ post)).drop pre.length) last = (strip f, (one f).length, 0) := by
      rw [List.drop_left, encB_cons, List.append_assoc]
      exact next_one hfw hf _
    have hlt : pre.length < (pre ++ (encB (f :: r) ++ post)).length := by
      rw [encB_cons]; simp only [List.length_append]; omega
    rw [decA_ok hl hlt hn]
    have i := ih (pre ++ one f) f.tag (by omega) (fun g hg => hw g (List.mem_cons_of_mem _ hg)) hr
    rw [← e1] at i
    have e2 : (pre ++ one f).length = pre.length + (one f).length := List.length_append
    have e3 : (strip f).tag = f.tag := rfl
    have e5 : pre.length + (one f).length + (encB r).length = pre.length + (encB (f :: r)).length := by rw [encB_cons, List.length_append]; omega
    rw [e2, e5, ← lastB_cons last f r] at i
    rw [e3, i]
    have hF := decA_form (pre ++ (encB (f :: r) ++ post)) (lastB last (f :: r)) (pre.length + (encB (f :: r)).length)
    generalize decA (pre ++ (encB (f :: r) ++ post)) (lastB last (f :: r)) (pre.length + (encB (f :: r)).length) = y at hF ⊢
    obtain ⟨ys, ya, ye⟩ := y
    by_cases he : ye = 0
    · subst he; simp
    · simp [he] at hF ⊢
      exact hF
/-- What is read is what would be written. -/
theorem decA_inv (N : Nat) (b : List UInt8) (last : Int) (at_ : Nat) (hN : b.length - at_ = N) (hat : at_ ≤ b.length) (hl : 0 ≤ last) (h : (decA b last at_).2.2 = 0) :
    encB (decA b last at_).1 = b.drop at_ ∧ faults last (decA b last at_).1 = 0 ∧ FWf (decA b last at_).1 ∧ ∀ f ∈ (decA b last at_).1, f.plain := by
  induction N using Nat.strongRecOn generalizing last at_ with
  | _ N ih =>
    by_cases hlt : at_ < b.length
    · obtain ⟨⟨f, n, e⟩, hx⟩ : ∃ x, x = next (b.drop at_) last := ⟨_, rfl⟩
      by_cases he : e = 0
      · subst he
        obtain ⟨p1, p2, p3, p4⟩ := next_pos hx.symm hl
        simp only [List.length_drop] at p2
        have ho := decA_ok hl hlt hx.symm
        by_cases hb : (decA b f.tag (at_ + n)).2.2 = 0
        · rw [if_neg (by simp [hb])] at ho
          obtain ⟨i1, i2, i3, i4⟩ := ih (b.length - (at_ + n)) (by omega) f.tag (at_ + n) rfl (by omega) (by omega) hb
          obtain ⟨r, hr, hn, hw, hp, hf⟩ := next_inv hx.symm hl
          rw [ho]
          have hd : b.drop (at_ + n) = r := by rw [← List.drop_drop, hr, hn, List.drop_left]
          refine ⟨?_, ?_, ?_, ?_⟩
          · rw [encB_cons, i1, hd, ← hr]
          · simp only [faults, hf, ne_eq, not_true_eq_false, if_false]; exact i2
          · intro g hg
            rcases List.mem_cons.1 hg with rfl | hg
            · exact hw
            · exact i3 g hg
          · intro g hg
            rcases List.mem_cons.1 hg with rfl | hg
            · exact hp
            · exact i4 g hg
        · rw [if_pos hb] at ho
          rw [ho] at h
          exact absurd h hb
      · have := decA_bad (last := last) hlt (by rw [← hx]; exact he)
        rw [this, ← hx] at h
        exact absurd h he
    · rw [decA_end (by omega)]
      refine ⟨?_, rfl, fun f hf => by simp at hf, fun f hf => by simp at hf⟩
      rw [List.drop_of_length_le (by omega)]; rfl
theorem decA_place (N : Nat) (b : List UInt8) (last : Int) (at_ : Nat) (hN : b.length - at_ = N) (hat : at_ ≤ b.length) (hl : 0 ≤ last) : (decA b last at_).2.1 ≤ b.length := by
  induction N using Nat.strongRecOn generalizing last at_ with
  | _ N ih =>
    by_cases hlt : at_ < b.length
    · obtain ⟨⟨f, n, e⟩, hx⟩ : ∃ x, x = next (b.drop at_) last := ⟨_, rfl⟩
      by_cases he : e = 0
      · subst he
        obtain ⟨p1, p2, p3, p4⟩ := next_pos hx.symm hl
        simp only [List.length_drop] at p2
        have ho := decA_ok hl hlt hx.symm
        have i := ih (b.length - (at_ + n)) (by omega) f.tag (at_ + n) rfl (by omega) (by omega)
        rw [ho]
        split
        · exact i
        · exact Nat.zero_le _
      · have := decA_bad (last := last) hlt (by rw [← hx]; exact he)
        rw [this]
        exact hat
    · rw [decA_end (by omega)]
      exact Nat.zero_le _
theorem map_strip {fs : List Fld} (h : ∀ f ∈ fs, f.plain) : fs.map strip = fs := by
  induction fs with
  | nil => rfl
  | cons f r ih => rw [List.map_cons, strip_plain (h f (List.mem_cons_self ..)), ih fun g hg => h g (List.mem_cons_of_mem _ hg)]
theorem dec_enc {fs : List Fld} (hw : FWf fs) (h : encE fs = 0) : dec (encR fs) = (fs.map strip, 0, 0) := by
  unfold encR
  rw [if_pos h]
  unfold encE at h
  split at h
  · rename_i h1; exact absurd h h1
  rename_i h1
  split at h
  · cases h
  rename_i h2
  rw [dec_eq, if_neg h2]
  have := decA_enc [] fs [] 0 (by omega) hw (by simpa using h1)
  simp only [List.nil_append, List.append_nil, List.length_nil, Nat.zero_add] at this
  rw [this, decA_end (by omega)]
  simp
theorem dec_inv {b : List UInt8} (h : (dec b).2.2 = 0) : encR (dec b).1 = b ∧ encE (dec b).1 = 0 ∧ FWf (dec b).1 ∧ (∀ f ∈ (dec b).1, f.plain) ∧ (dec b).2.1 = 0 ∧ encB (dec b).1 = b ∧ faults 0 (dec b).1 = 0 ∧ b.length ≤ 1024 := by
  rw [dec_eq] at h ⊢
  split at h
  · cases h
  rename_i h1
  rw [if_neg h1]
  obtain ⟨i1, i2, i3, i4⟩ := decA_inv _ b 0 0 rfl (by omega) (by omega) h
  rw [List.drop_zero] at i1
  have hE : encE (decA b 0 0).1 = 0 := by
    unfold encE
    rw [i2, i1, if_neg (by simp), if_neg h1]
  exact ⟨by unfold encR; rw [if_pos hE, i1], hE, i3, i4, (decA_form b 0 0).2 h, i1, i2, by omega⟩
theorem dec_place (b : List UInt8) : (dec b).2.1 ≤ b.length := by
  rw [dec_eq]
  split
  · exact Nat.zero_le _
  · exact decA_place _ b 0 0 rfl (by omega) (by omega)
theorem lastB0 (fs : List Fld) : lastB 0 fs = lastT fs := by
  unfold lastB
  split
  · rename_i h; subst h; rfl
  · rfl
/-- Two records behind each other. -/
theorem dec_pieces {a b : List UInt8} (ha : (dec a).2.2 = 0) (hb : (dec b).2.2 = 0) (f : Fld) (r : List Fld) (hf : (dec b).1 = f :: r) (_hn : (dec a).1 ≠ []) :
    dec (a ++ b) = if 1024 < a.length + b.length then ([], 0, 24) else if f.tag ≤ lastT (dec a).1 then ([], a.length, 21) else ((dec a).1 ++ (dec b).1, 0, 0) := by
  obtain ⟨_, _, a3, a4, _, a6, a7, _⟩ := dec_inv ha
  obtain ⟨_, _, b3, b4, _, b6, b7, _⟩ := dec_inv hb
  rw [dec_eq, List.length_append]
  split
  · rfl
  have hla : 0 ≤ lastT (dec a).1 := by have := (faults_bound _ a3 a7).1; omega
  have h1 := decA_enc [] (dec a).1 b 0 (by omega) a3 a7
  simp only [List.nil_append, List.length_nil, Nat.zero_add, a6, lastB0] at h1
  have hfb : fault f 0 = 0 := by
    rw [hf] at b7
    simp only [faults] at b7
    split at b7
    · omega
    · omega
  have hfw : f.wf := b3 f (by rw [hf]; exact List.mem_cons_self ..)
  have hb1 : b = one f ++ encB r := by rw [← b6, hf, encB_cons]
  have hlt : a.length < (a ++ b).length := by
    have := one_len hfw hfb
    rw [hb1]; simp only [List.length_append]; omega
  have hk := fault_ok hfb
  by_cases ht : f.tag ≤ lastT (dec a).1
  · rw [if_pos ht]
    have hnx : (next ((a ++ b).drop a.length) (lastT (dec a).1)).2.2 = 21 := by
      rw [List.drop_left, hb1]
      unfold next
      unfold one
      split
      · rw [List.append_assoc, vdec_enc _ _ (by omega)]
        simp only [ne_eq, not_true_eq_false, if_false]
        rw [if_neg (by omega), if_pos (by omega)]
      · rw [List.append_assoc, vdec_enc _ _ (by omega)]
        simp only [ne_eq, not_true_eq_false, if_false]
        rw [if_neg (by omega), if_pos (by omega)]
    have h2 := decA_bad hlt (by rw [hnx]; decide)
    rw [hnx] at h2
    rw [h2] at h1
    simpa using h1
  · rw [if_neg ht]
    have hfl : faults (lastT (dec a).1) (dec b).1 = 0 := by
      rw [hf] at b7 ⊢
      simp only [faults] at b7 ⊢
      have h3 : fault f (lastT (dec a).1) = 0 := fault_of hk.1 hk.2.1 (by omega) hk.2.2.2.1 hk.2.2.2.2
      rw [if_neg (by omega)] at b7
      rw [if_neg (by omega)]
      exact b7
    have h3 := decA_enc a (dec b).1 [] (lastT (dec a).1) hla b3 hfl
    simp only [List.append_nil, b6] at h3
    rw [decA_end (b := a ++ b) (at_ := a.length + b.length) (by simp)] at h3
    simp only [ne_eq, not_true_eq_false, if_false, List.append_nil, map_strip b4] at h3
    rw [h3] at h1
    simpa [map_strip a4] using h1
end Go.Proofs.YtjajbbgebblalaaGreatDoor
