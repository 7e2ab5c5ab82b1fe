/-
  The plain law of the check sum: four bits at a time is bit by bit. No program in sight.
-/
/-
  The plain law of lists of numbers and of frames: what is written is read, and what is read is what would be written. No program in sight.
-/
/-
  The plain law of manifests: valid ones, their bytes, there and back; the lenient reading that is held against the bytes is the strict one. No program in sight.
-/
/-
  The plain law of books: frames behind one another, what is laid is found; a book's states and bytes, there and back; the lenient reading that is held against the bytes is the strict one. No program in sight.
-/
/-
  The plain law of a reading's places: where the k-th frame begins, and what a reading finds there. No program in sight.
-/
import Derived.Test.YtjajbbgebblalaaGreatDoorVarP
namespace Go.Proofs.YtjajbbgebblalaaGreatDoor
open Go.RowKit
set_option linter.unusedVariables false
set_option linter.unusedSimpArgs false
def crcPoly : Nat := 3988292384
def cbit (c : Nat) : Nat := c / 2 ^^^ (c % 2) * crcPoly
def cbits : Nat → Nat → Nat
  | 0, c => c
  | n + 1, c => cbits n (cbit c)
/-- The register behind one more byte: bit by bit. -/
def ctake (c x : Nat) : Nat := cbits 8 (c ^^^ x)
def nibs : List Nat := [0, 498536548, 997073096, 651767980, 1994146192, 1802195444, 1303535960, 1342533948, 3988292384, 4027552580, 3604390888, 3412177804, 2607071920, 2262029012, 2685067896, 3183342108]
def cnib (c : Nat) : Nat := c / 16 ^^^ nibs.getD (c % 16) 0
theorem cbits_add (m n c : Nat) : cbits (m + n) c = cbits n (cbits m c) := by
  induction m generalizing c with
  | zero => rw [Nat.zero_add]; rfl
  | succ m ih => rw [show m + 1 + n = m + n + 1 by omega]; exact ih (cbit c)
theorem mulp (b : Nat) (h : b < 2) (b' : Nat) (h' : b' < 2) : ((b ^^^ b') * crcPoly) = (b * crcPoly) ^^^ (b' * crcPoly) := by
  have h1 : b = 0 ∨ b = 1 := by omega
  have h2 : b' = 0 ∨ b' = 1 := by omega
  rcases h1 with rfl | rfl <;> rcases h2 with rfl | rfl <;> decide
theorem cbit_xor (a b : Nat) : cbit (a ^^^ b) = cbit a ^^^ cbit b := by
  unfold cbit
  have h1 : (a ^^^ b) / 2 = a / 2 ^^^ b / 2 := by
    apply Nat.eq_of_testBit_eq
    intro i
    simp only [Nat.testBit_xor, Nat.testBit_div_two]
  have h2 : (a ^^^ b) % 2 = (a % 2) ^^^ (b % 2) := by
    have := Nat.xor_mod_two_pow (a := a) (b := b) (n := 1)
    simpa using this
  rw [h1, h2, mulp _ (by omega) _ (by omega)]
  rw [Nat.xor_assoc, Nat.xor_assoc]
  congr 1
  rw [← Nat.xor_assoc, Nat.xor_comm (b / 2), Nat.xor_assoc]
theorem cbits_xor (n a b : Nat) : cbits n (a ^^^ b) = cbits n a ^^^ cbits n b := by
  induction n generalizing a b with
  | zero => rfl
  | succ n ih => show cbits n (cbit (a ^^^ b)) = cbits n (cbit a) ^^^ cbits n (cbit b); rw [cbit_xor, ih]
theorem cbits_high (n h : Nat) : cbits n (2 ^ n * h) = h := by
  induction n with
  | zero => show 2 ^ 0 * h = h; omega
  | succ n ih =>
    show cbits n (cbit (2 ^ (n + 1) * h)) = h
    have : cbit (2 ^ (n + 1) * h) = 2 ^ n * h := by
      unfold cbit
      have e : 2 ^ (n + 1) * h = 2 * (2 ^ n * h) := by rw [Nat.pow_succ, Nat.mul_comm (2 ^ n) 2, Nat.mul_assoc]
      rw [e, Nat.mul_div_cancel_left _ (by decide), Nat.mul_mod_right, Nat.zero_mul, Nat.xor_zero]
    rw [this, ih]
theorem cnib_eq (c : Nat) : cnib c = cbits 4 c := by
  have hsplit : c = 2 ^ 4 * (c / 16) ^^^ (c % 16) := by
    have h := Nat.two_pow_add_eq_or_of_lt (i := 4) (b := c % 16) (by omega) (c / 16)
    have h2 : 2 ^ 4 * (c / 16) + c % 16 = c := by omega
    have h3 : 2 ^ 4 * (c / 16) &&& c % 16 = 0 := by
      apply Nat.eq_of_testBit_eq
      intro i
      rw [Nat.testBit_and, Nat.zero_testBit]
      by_cases hi : i < 4
      · rw [Nat.testBit_two_pow_mul]; simp; omega
      · have : (c % 16).testBit i = false := Nat.testBit_lt_two_pow (Nat.lt_of_lt_of_le (Nat.mod_lt _ (by decide)) (Nat.pow_le_pow_right (show 0 < 2 by decide) (show 4 ≤ i by omega)))
        rw [this, Bool.and_false]
    have h4 : 2 ^ 4 * (c / 16) ^^^ c % 16 = 2 ^ 4 * (c / 16) ||| c % 16 := by
      apply Nat.eq_of_testBit_eq
      intro i
      have h5 := congrArg (fun n => n.testBit i) h3
      simp only [Nat.testBit_and, Nat.zero_testBit] at h5
      rw [Nat.testBit_xor, Nat.testBit_or]
      revert h5
      generalize (2 ^ 4 * (c / 16)).testBit i = p
      generalize (c % 16).testBit i = q
      cases p <;> cases q <;> decide
    rw [h4, ← h, h2]
  have hl : cbits 4 (c % 16) = nibs.getD (c % 16) 0 := by
    have : ∀ k, k < 16 → cbits 4 k = nibs.getD k 0 := by decide
    exact this _ (Nat.mod_lt _ (by decide))
  conv => rhs; rw [hsplit]
  rw [cbits_xor, cbits_high, hl]
  rfl
theorem ctake_nib (c x : Nat) : ctake c x = cnib (cnib (c ^^^ x)) := by
  rw [cnib_eq, cnib_eq]
  exact cbits_add 4 4 _
theorem cbit_lt {c : Nat} (h : c < 4294967296) : cbit c < 4294967296 := by
  unfold cbit
  have h1 : c / 2 < 2 ^ 32 := by omega
  have h2 : (c % 2) * crcPoly < 2 ^ 32 := by
    have : c % 2 = 0 ∨ c % 2 = 1 := by omega
    rcases this with h | h <;> rw [h] <;> decide
  exact Nat.xor_lt_two_pow h1 h2
theorem cbits_lt {c : Nat} (n : Nat) (h : c < 4294967296) : cbits n c < 4294967296 := by
  induction n generalizing c with
  | zero => exact h
  | succ n ih => exact ih (cbit_lt h)
theorem ctake_lt {c x : Nat} (h : c < 4294967296) (hx : x < 256) : ctake c x < 4294967296 :=
  cbits_lt 8 (Nat.xor_lt_two_pow (n := 32) h (by omega))
/-- The register behind bytes. -/
def creg (c : Nat) (b : List UInt8) : Nat := b.foldl (fun c x => ctake c x.toNat) c
theorem creg_lt {c : Nat} (b : List UInt8) (h : c < 4294967296) : creg c b < 4294967296 := by
  unfold creg
  induction b generalizing c with
  | nil => exact h
  | cons x r ih => exact ih (ctake_lt h (by have := x.toNat_lt; omega))
theorem creg_snoc (c : Nat) (b : List UInt8) (x : UInt8) : creg c (b ++ [x]) = ctake (creg c b) x.toNat := by unfold creg; rw [List.foldl_append]; rfl
/-- The check sum. -/
def csum (b : List UInt8) : Nat := 4294967295 - creg 4294967295 b
theorem csum_lt (b : List UInt8) : csum b < 4294967296 := by unfold csum; omega
/-- A sum as it is laid in files. -/
def four (s : Nat) : List UInt8 := [UInt8.ofNat (s % 256), UInt8.ofNat (s / 256 % 256), UInt8.ofNat (s / 65536 % 256), UInt8.ofNat (s / 16777216 % 256)]
theorem four_len (s : Nat) : (four s).length = 4 := rfl
end Go.Proofs.YtjajbbgebblalaaGreatDoor

namespace Go.Proofs.YtjajbbgebblalaaGreatDoor
open Go.RowKit
set_option linter.unusedVariables false
set_option linter.unusedSimpArgs false
/-- Eight bytes, the lowest first. -/
def le8 (s : Nat) : List UInt8 := (List.range 8).map fun i => UInt8.ofNat (s / 256 ^ i % 256)
def un8 : List UInt8 → Nat
  | [] => 0
  | x :: r => x.toNat + 256 * un8 r
def fhead (kind seq n : Nat) : List UInt8 := [165, UInt8.ofNat kind, UInt8.ofNat (n % 256), UInt8.ofNat (n / 256)] ++ le8 seq
/-- The bytes of a frame. -/
def fenc (kind seq : Nat) (body : List UInt8) : List UInt8 := fhead kind seq body.length ++ (four (csum (fhead kind seq body.length)) ++ (body ++ four (csum body)))
theorem fhead_len (k s n : Nat) : (fhead k s n).length = 12 := rfl
theorem fenc_len (k s : Nat) (b : List UInt8) : (fenc k s b).length = 20 + b.length := by
  unfold fenc
  rw [List.length_append, List.length_append, List.length_append, fhead_len, four_len, four_len]; omega
theorem un8_le8 (s : Nat) (h : s < 18446744073709551616) : un8 (le8 s) = s := by
  simp only [le8, List.range, List.range.loop, List.map_cons, List.map_nil, un8]
  simp only [UInt8.toNat_ofNat']
  simp only [Nat.reducePow]
  omega
theorem b_of (x : UInt8) : UInt8.ofNat x.toNat = x := by simp
theorem le8_un8 (b : List UInt8) (h : b.length = 8) : le8 (un8 b) = b := by
  match b, h with
  | [x0, x1, x2, x3, x4, x5, x6, x7], _ =>
    have h0 := x0.toNat_lt; have h1 := x1.toNat_lt; have h2 := x2.toNat_lt; have h3 := x3.toNat_lt
    have h4 := x4.toNat_lt; have h5 := x5.toNat_lt; have h6 := x6.toNat_lt; have h7 := x7.toNat_lt
    simp only [le8, List.range, List.range.loop, List.map_cons, List.map_nil, un8]
    simp only [Nat.reducePow]
    simp only [List.cons.injEq, and_true]
    refine ⟨?_, ?_, ?_, ?_, ?_, ?_, ?_, ?_⟩
    · conv => rhs; rw [← b_of x0]
      congr 1; omega
    · conv => rhs; rw [← b_of x1]
      congr 1; omega
    · conv => rhs; rw [← b_of x2]
      congr 1; omega
    · conv => rhs; rw [← b_of x3]
      congr 1; omega
    · conv => rhs; rw [← b_of x4]
      congr 1; omega
    · conv => rhs; rw [← b_of x5]
      congr 1; omega
    · conv => rhs; rw [← b_of x6]
      congr 1; omega
    · conv => rhs; rw [← b_of x7]
      congr 1; omega
theorem un8_pow (b : List UInt8) : un8 b < 256 ^ b.length := by
  induction b with
  | nil => decide
  | cons x r ih =>
    have h := x.toNat_lt
    rw [List.length_cons, Nat.pow_succ]
    unfold un8
    omega
def fk (b : List UInt8) : Nat := (b.getD 1 0).toNat
def fn (b : List UInt8) : Nat := (b.getD 2 0).toNat + 256 * (b.getD 3 0).toNat
def fs8 (b : List UInt8) : Nat := un8 ((b.drop 4).take 8)
/-- What Peek answers: kind, number, size, error. -/
def fpeek (b : List UInt8) : Nat × Nat × Nat × Nat :=
  if b.length < 16 then (0, 0, 0, 60)
  else if b.getD 0 0 ≠ 165 then (0, 0, 0, 61)
  else if (b.drop 12).take 4 ≠ four (csum (b.take 12)) then (0, 0, 0, 62)
  else if fk b < 1 ∨ 7 < fk b ∨ 16384 < fn b ∨ 1099511627776 < fs8 b then (0, 0, 0, 63)
  else (fk b, fs8 b, 20 + fn b, 0)
/-- What Decode answers: kind, number, body, size, error. -/
def fdec (b : List UInt8) : (Nat × Nat × List UInt8) × Nat × Nat :=
  if (fpeek b).2.2.2 ≠ 0 then ((0, 0, []), 0, (fpeek b).2.2.2)
  else if b.length < (fpeek b).2.2.1 then ((0, 0, []), 0, 60)
  else if (b.drop (16 + fn b)).take 4 ≠ four (csum ((b.drop 16).take (fn b))) then ((0, 0, []), 0, 62)
  else (((fpeek b).1, (fpeek b).2.1, (b.drop 16).take (fn b)), (fpeek b).2.2.1, 0)
theorem fpeek_ok {b : List UInt8} (h : (fpeek b).2.2.2 = 0) : 16 ≤ b.length ∧ b.getD 0 0 = 165 ∧ (b.drop 12).take 4 = four (csum (b.take 12)) ∧ 1 ≤ fk b ∧ fk b ≤ 7 ∧ fn b ≤ 16384 ∧ fs8 b ≤ 1099511627776 ∧ fpeek b = (fk b, fs8 b, 20 + fn b, 0) := by
  unfold fpeek at h ⊢
  split at h
  · cases h
  split at h
  · cases h
  split at h
  · cases h
  split at h
  · cases h
  rename_i h1 h2 h3 h4
  rw [if_neg h1, if_neg h2, if_neg h3, if_neg h4]
  exact ⟨by omega, by simpa using h2, by simpa using h3, by omega, by omega, by omega, by omega, rfl⟩
theorem take12 {b : List UInt8} (h : 12 ≤ b.length) : b.take 12 = b.getD 0 0 :: b.getD 1 0 :: b.getD 2 0 :: b.getD 3 0 :: (b.drop 4).take 8 := by
  match b, h with
  | x0 :: x1 :: x2 :: x3 :: r, _ => rfl
theorem fhead_of {b : List UInt8} (h1 : 12 ≤ b.length) (h2 : b.getD 0 0 = 165) : b.take 12 = fhead (fk b) (fs8 b) (fn b) := by
  have h := take12 h1
  rw [h, h2]
  unfold fhead fk fs8 fn
  rw [le8_un8 _ (by rw [List.length_take, List.length_drop]; omega)]
  have g1 := (b.getD 2 0).toNat_lt
  have g2 := (b.getD 3 0).toNat_lt
  rw [b_of, show ((b.getD 2 0).toNat + 256 * (b.getD 3 0).toNat) % 256 = (b.getD 2 0).toNat by omega, show ((b.getD 2 0).toNat + 256 * (b.getD 3 0).toNat) / 256 = (b.getD 3 0).toNat by omega, b_of, b_of]
  rfl
theorem fdec_inv {b body : List UInt8} {k s n : Nat} (h : fdec b = ((k, s, body), n, 0)) : ∃ r, b = fenc k s body ++ r ∧ n = 20 + body.length ∧ 1 ≤ k ∧ k ≤ 7 ∧ s ≤ 1099511627776 ∧ body.length ≤ 16384 := by
  unfold fdec at h
  split at h
  · rename_i h0; injection h with _ h; injection h with _ h; exact absurd h h0
  rename_i h0
  split at h
  · injection h with _ h; injection h with _ h; cases h
  rename_i h1
  split at h
  · injection h with _ h; injection h with _ h; cases h
  rename_i h2
  obtain ⟨p1, p2, p3, p4, p5, p6, p7, p8⟩ := fpeek_ok (b := b) (by simpa using h0)
  rw [p8] at h h1
  dsimp only at h h1
  injection h with h3 h4
  injection h3 with h5 h6
  injection h6 with h6 h7
  injection h4 with h4 _
  subst h5 h6 h7 h4
  have hl : ((b.drop 16).take (fn b)).length = fn b := by rw [List.length_take, List.length_drop]; omega
  refine ⟨b.drop (20 + fn b), ?_, by rw [hl], p4, p5, p7, by rw [hl]; exact p6⟩
  have e1 := fhead_of (b := b) (by omega) p2
  unfold fenc
  rw [hl, ← e1, ← p3]
  have h2' : (b.drop (16 + fn b)).take 4 = four (csum ((b.drop 16).take (fn b))) := by simpa using h2
  rw [← h2']
  have a1 : b.drop 12 = (b.drop 12).take 4 ++ b.drop 16 := by
    rw [show b.drop 16 = (b.drop 12).drop 4 by rw [List.drop_drop], List.take_append_drop]
  have a2 : b.drop 16 = (b.drop 16).take (fn b) ++ b.drop (16 + fn b) := by
    rw [show b.drop (16 + fn b) = (b.drop 16).drop (fn b) by rw [List.drop_drop], List.take_append_drop]
  have a3 : b.drop (16 + fn b) = (b.drop (16 + fn b)).take 4 ++ b.drop (20 + fn b) := by
    rw [show b.drop (20 + fn b) = (b.drop (16 + fn b)).drop 4 by rw [List.drop_drop]; congr 1; omega, List.take_append_drop]
  conv => lhs; rw [← List.take_append_drop 12 b, a1, a2, a3]
  simp only [List.append_assoc]
theorem getD_app {a r : List UInt8} {i : Nat} (h : i < a.length) : (a ++ r).getD i 0 = a.getD i 0 := by
  rw [List.getD_eq_getElem?_getD, List.getD_eq_getElem?_getD, List.getElem?_append_left h]
theorem fdec_enc {k s : Nat} {body : List UInt8} (r : List UInt8) (h1 : 1 ≤ k) (h2 : k ≤ 7) (h3 : s ≤ 1099511627776) (h4 : body.length ≤ 16384) : fdec (fenc k s body ++ r) = ((k, s, body), 20 + body.length, 0) := by
  obtain ⟨H, hH⟩ : ∃ H, H = fhead k s body.length := ⟨_, rfl⟩
  obtain ⟨F, hF⟩ : ∃ F, F = four (csum H) := ⟨_, rfl⟩
  obtain ⟨G, hG⟩ : ∃ G, G = four (csum body) := ⟨_, rfl⟩
  have lH : H.length = 12 := by rw [hH]; rfl
  have lF : F.length = 4 := by rw [hF]; rfl
  have lG : G.length = 4 := by rw [hG]; rfl
  have e : fenc k s body ++ r = H ++ (F ++ (body ++ (G ++ r))) := by unfold fenc; rw [← hH, ← hF, ← hG]; simp only [List.append_assoc]
  rw [e]
  obtain ⟨B, hB⟩ : ∃ B, B = H ++ (F ++ (body ++ (G ++ r))) := ⟨_, rfl⟩
  have lB : B.length = 20 + body.length + r.length := by rw [hB]; simp only [List.length_append]; omega
  have t12 : B.take 12 = H := by rw [hB, ← lH, List.take_left' rfl]
  have d12 : (B.drop 12).take 4 = F := by rw [hB, List.drop_left' lH, List.take_left' lF]
  have d16 : B.drop 16 = body ++ (G ++ r) := by
    rw [hB, show H ++ (F ++ (body ++ (G ++ r))) = (H ++ F) ++ (body ++ (G ++ r)) by rw [List.append_assoc], List.drop_left' (by rw [List.length_append]; omega)]
  have g0 : ∀ i, i < 12 → B.getD i 0 = H.getD i 0 := fun i hi => by rw [hB]; exact getD_app (by omega)
  have q0 : B.getD 0 0 = 165 := by rw [g0 0 (by decide), hH]; rfl
  have q1 : fk B = k := by
    unfold fk; rw [g0 1 (by decide), hH]
    show (UInt8.ofNat k).toNat = k
    exact toNat_ofNat (by omega)
  have q2 : fn B = body.length := by
    unfold fn; rw [g0 2 (by decide), g0 3 (by decide), hH]
    show (UInt8.ofNat (body.length % 256)).toNat + 256 * (UInt8.ofNat (body.length / 256)).toNat = body.length
    rw [toNat_ofNat (by omega), toNat_ofNat (by omega)]; omega
  have q3 : fs8 B = s := by
    unfold fs8
    have : (B.drop 4).take 8 = le8 s := by
      have h := take12 (b := B) (by omega)
      rw [t12, hH] at h
      unfold fhead at h
      simp only [List.cons_append, List.nil_append, List.cons.injEq] at h
      exact h.2.2.2.2.symm
    rw [this]
    exact un8_le8 s (by omega)
  have pk : fpeek B = (k, s, 20 + body.length, 0) := by
    unfold fpeek
    rw [if_neg (by omega), if_neg (by rw [q0]; simp), if_neg (by rw [d12, t12, hF]; simp), q1, q2, q3, if_neg (by omega)]
  rw [← hB]
  unfold fdec
  rw [pk, q2]
  dsimp only
  rw [if_neg (by simp), if_neg (by omega)]
  have t1 : (B.drop 16).take body.length = body := by rw [d16, List.take_left' rfl]
  have t2 : (B.drop (16 + body.length)).take 4 = G := by
    rw [show B.drop (16 + body.length) = (B.drop 16).drop body.length by rw [List.drop_drop], d16, List.drop_left' rfl, List.take_left' lG]
  rw [t1, t2, if_neg (by rw [hG]; simp)]
end Go.Proofs.YtjajbbgebblalaaGreatDoor

namespace Go.Proofs.YtjajbbgebblalaaGreatDoor
open Go.RowKit
set_option linter.unusedVariables false
set_option linter.unusedSimpArgs false
end Go.Proofs.YtjajbbgebblalaaGreatDoor

namespace Go.Proofs.YtjajbbgebblalaaGreatDoor
open Go.RowKit
set_option linter.unusedVariables false
set_option linter.unusedSimpArgs false
theorem encR_len {s : St} (h : VOk s) : (encR (refF s)).length ≤ 420 := by
  unfold encR
  rw [if_pos (refF_enc h)]
  exact refF_len h
/-- A frame: kind, number, body. -/
abbrev Frm := Nat × Nat × List UInt8
def frB (f : Frm) : List UInt8 := fenc f.1 f.2.1 f.2.2
def FrOk (f : Frm) : Prop := 1 ≤ f.1 ∧ f.1 ≤ 7 ∧ f.2.1 ≤ 1099511627776 ∧ f.2.2.length ≤ 16384
def layF (fs : List Frm) : List UInt8 := fs.flatMap frB
/-- The frames up to the first that is none, how many bytes they have, why it ended. -/
def scnF : Nat → List UInt8 → List Frm × Nat × Nat
  | 0, _ => ([], 0, 0)
  | n + 1, b => if b = [] then ([], 0, 0) else if (fdec b).2.2 ≠ 0 then ([], 0, (fdec b).2.2)
    else ((fdec b).1 :: (scnF n (b.drop (fdec b).2.1)).1, (fdec b).2.1 + (scnF n (b.drop (fdec b).2.1)).2.1, (scnF n (b.drop (fdec b).2.1)).2.2)
def scn (b : List UInt8) : List Frm × Nat × Nat := scnF b.length b
theorem fdec_size {b : List UInt8} (h : (fdec b).2.2 = 0) : 20 ≤ (fdec b).2.1 ∧ (fdec b).2.1 ≤ b.length ∧ FrOk (fdec b).1 ∧ b = frB (fdec b).1 ++ b.drop (fdec b).2.1 ∧ (fdec b).2.1 = 20 + (fdec b).1.2.2.length := by
  obtain ⟨⟨⟨k, s, body⟩, n, e⟩, hd⟩ : ∃ x, x = fdec b := ⟨_, rfl⟩
  rw [← hd] at h ⊢
  dsimp only at h ⊢
  subst h
  obtain ⟨r, h1, h2, h3, h4, h5, h6⟩ := fdec_inv hd.symm
  have hl := congrArg List.length h1
  rw [List.length_append, fenc_len] at hl
  refine ⟨by omega, by omega, ⟨h3, h4, h5, h6⟩, ?_, h2⟩
  have e : b.drop n = r := by
    rw [h1, h2, ← fenc_len k s body]
    exact List.drop_left
  rw [e]
  exact h1
theorem scnF_fuel (n m : Nat) (b : List UInt8) (hn : b.length ≤ n) (hm : b.length ≤ m) : scnF n b = scnF m b := by
  induction n generalizing m b with
  | zero =>
    have hb : b = [] := List.eq_nil_of_length_eq_zero (by omega)
    subst hb
    cases m <;> simp [scnF]
  | succ n ih =>
    cases m with
    | zero =>
      have hb : b = [] := List.eq_nil_of_length_eq_zero (by omega)
      subst hb
      simp [scnF]
    | succ m =>
      unfold scnF
      split; · rfl
      split; · rfl
      rename_i h1 h2
      have h3 := fdec_size (Classical.not_not.1 h2)
      have h4 : (b.drop (fdec b).2.1).length ≤ n ∧ (b.drop (fdec b).2.1).length ≤ m := by rw [List.length_drop]; omega
      rw [ih m _ h4.1 h4.2]
theorem scn_nil : scn [] = ([], 0, 0) := rfl
theorem scn_bad {b : List UInt8} (hb : b ≠ []) (h : (fdec b).2.2 ≠ 0) : scn b = ([], 0, (fdec b).2.2) := by
  unfold scn
  cases hl : b.length with
  | zero => exact absurd (List.eq_nil_of_length_eq_zero hl) hb
  | succ n => unfold scnF; rw [if_neg hb, if_pos h]
theorem scn_cons {b : List UInt8} (hb : b ≠ []) (h : (fdec b).2.2 = 0) : scn b = ((fdec b).1 :: (scn (b.drop (fdec b).2.1)).1, (fdec b).2.1 + (scn (b.drop (fdec b).2.1)).2.1, (scn (b.drop (fdec b).2.1)).2.2) := by
  unfold scn
  cases hl : b.length with
  | zero => exact absurd (List.eq_nil_of_length_eq_zero hl) hb
  | succ n =>
    have h3 := fdec_size h
    conv => lhs; unfold scnF
    rw [if_neg hb, if_neg (by rw [h]; simp)]
    rw [scnF_fuel n (b.drop (fdec b).2.1).length _ (by rw [List.length_drop]; omega) (Nat.le_refl _)]
theorem frB_len (f : Frm) : (frB f).length = 20 + f.2.2.length := fenc_len _ _ _
theorem frB_ne (f : Frm) (r : List UInt8) : frB f ++ r ≠ [] := fun h => by
  have := congrArg List.length h
  rw [List.length_append, frB_len] at this
  simp at this
/-- What is laid is found. -/
theorem scn_lay {fs : List Frm} (h : ∀ f ∈ fs, FrOk f) : scn (layF fs) = (fs, (layF fs).length, 0) := by
  induction fs with
  | nil => rfl
  | cons f r ih =>
    have hf := h f (List.mem_cons_self ..)
    have ih := ih fun g hg => h g (List.mem_cons_of_mem _ hg)
    have e : layF (f :: r) = frB f ++ layF r := rfl
    have hd : fdec (frB f ++ layF r) = (f, 20 + f.2.2.length, 0) := fdec_enc _ hf.1 hf.2.1 hf.2.2.1 hf.2.2.2
    rw [e, scn_cons (frB_ne f _) (by rw [hd]), hd]
    dsimp only
    rw [← frB_len f, List.drop_left, ih, List.length_append]
/-- What is found was laid. -/
theorem scnF_inv (n : Nat) (b : List UInt8) (hn : b.length ≤ n) (h : (scnF n b).2.2 = 0) : b = layF (scnF n b).1 ∧ ∀ f ∈ (scnF n b).1, FrOk f := by
  induction n generalizing b with
  | zero =>
    have hb : b = [] := List.eq_nil_of_length_eq_zero (by omega)
    subst hb
    exact ⟨rfl, fun f hf => by cases hf⟩
  | succ n ih =>
    unfold scnF at h ⊢
    split
    · rename_i hb; subst hb; exact ⟨rfl, fun f hf => by cases hf⟩
    rename_i hb
    rw [if_neg hb] at h
    split
    · rename_i h1; rw [if_pos h1] at h; exact absurd h h1
    rename_i h1
    rw [if_neg h1] at h
    have h2 := fdec_size (Classical.not_not.1 h1)
    obtain ⟨g1, g2⟩ := ih (b.drop (fdec b).2.1) (by rw [List.length_drop]; omega) h
    refine ⟨?_, fun f hf => ?_⟩
    · show b = frB (fdec b).1 ++ layF _
      rw [← g1]
      exact h2.2.2.2.1
    · rcases List.mem_cons.1 hf with rfl | hf
      · exact h2.2.2.1
      · exact g2 f hf
theorem scn_inv {b : List UInt8} (h : (scn b).2.2 = 0) : b = layF (scn b).1 ∧ ∀ f ∈ (scn b).1, FrOk f := scnF_inv _ _ (Nat.le_refl _) h
/-- All frames found are right ones, whatever comes behind. -/
theorem scnF_ok (n : Nat) (b : List UInt8) : ∀ f ∈ (scnF n b).1, FrOk f := by
  induction n generalizing b with
  | zero => intro f hf; cases hf
  | succ n ih =>
    unfold scnF
    split; · intro f hf; cases hf
    split; · intro f hf; cases hf
    rename_i h1
    intro f hf
    rcases List.mem_cons.1 hf with rfl | hf
    · exact (fdec_size (Classical.not_not.1 h1)).2.2.1
    · exact ih _ f hf
theorem scn_ok (b : List UInt8) : ∀ f ∈ (scn b).1, FrOk f := scnF_ok _ _
theorem scnF_good (n : Nat) (b : List UInt8) : (scnF n b).2.1 = (layF (scnF n b).1).length ∧ (scnF n b).2.1 ≤ b.length ∧ 20 * (scnF n b).1.length ≤ (scnF n b).2.1 := by
  induction n generalizing b with
  | zero => exact ⟨rfl, Nat.zero_le _, Nat.le_refl _⟩
  | succ n ih =>
    unfold scnF
    split; · exact ⟨rfl, Nat.zero_le _, Nat.le_refl _⟩
    split; · exact ⟨rfl, Nat.zero_le _, Nat.le_refl _⟩
    rename_i h1
    have h2 := fdec_size (Classical.not_not.1 h1)
    obtain ⟨g1, g2, g3⟩ := ih (b.drop (fdec b).2.1)
    dsimp only
    rw [List.length_drop] at g2
    refine ⟨?_, by omega, by rw [List.length_cons]; omega⟩
    show _ = (frB (fdec b).1 ++ layF _).length
    rw [List.length_append, frB_len, ← g1]
    omega
theorem scn_good (b : List UInt8) : (scn b).2.1 = (layF (scn b).1).length ∧ (scn b).2.1 ≤ b.length ∧ 20 * (scn b).1.length ≤ (scn b).2.1 := scnF_good _ _
/-- Behind the frames: nothing, or what is none. -/
theorem scnF_rest (n : Nat) (b : List UInt8) (hn : b.length ≤ n) : ((scnF n b).2.2 = 0 ↔ (scnF n b).2.1 = b.length) ∧ ((scnF n b).2.2 ≠ 0 → (fdec (b.drop (scnF n b).2.1)).2.2 = (scnF n b).2.2) := by
  induction n generalizing b with
  | zero =>
    have hb : b = [] := List.eq_nil_of_length_eq_zero (by omega)
    subst hb
    exact ⟨by simp [scnF], fun h => absurd rfl h⟩
  | succ n ih =>
    unfold scnF
    split
    · rename_i hb; subst hb; exact ⟨by simp, fun h => absurd rfl h⟩
    rename_i hb
    split
    · rename_i h1
      have : 0 < b.length := List.length_pos_iff.2 hb
      dsimp only
      exact ⟨⟨fun h => absurd h h1, fun h => by omega⟩, fun _ => rfl⟩
    rename_i h1
    have h2 := fdec_size (Classical.not_not.1 h1)
    obtain ⟨g1, g2⟩ := ih (b.drop (fdec b).2.1) (by rw [List.length_drop]; omega)
    dsimp only
    rw [List.length_drop] at g1
    refine ⟨⟨fun h => by have := g1.1 h; omega, fun h => g1.2 (by omega)⟩, fun h => ?_⟩
    have := g2 h
    rw [List.drop_drop] at this
    exact this
theorem scn_rest (b : List UInt8) : ((scn b).2.2 = 0 ↔ (scn b).2.1 = b.length) ∧ ((scn b).2.2 ≠ 0 → (fdec (b.drop (scn b).2.1)).2.2 = (scn b).2.2) := scnF_rest _ _ (Nat.le_refl _)
/-- A book's states, from a number on. -/
def bookB : Int → List St → Bool
  | _, [] => true
  | last, s :: r => decide (last < s.order) && decide (1 ≤ s.events) && validB s && bookB s.order r
theorem book_cons {last : Int} {s : St} {r : List St} : bookB last (s :: r) = true ↔ last < s.order ∧ 1 ≤ s.events ∧ validB s = true ∧ bookB s.order r = true := by
  show (decide (last < s.order) && decide (1 ≤ s.events) && validB s && bookB s.order r) = true ↔ _
  simp only [Bool.and_eq_true, decide_eq_true_eq]
  exact ⟨fun ⟨⟨⟨a, b⟩, c⟩, d⟩ => ⟨a, b, c, d⟩, fun ⟨a, b, c, d⟩ => ⟨⟨⟨a, b⟩, c⟩, d⟩⟩
theorem book_mem {last : Int} {l : List St} (h : bookB last l = true) : ∀ s ∈ l, last < s.order ∧ 1 ≤ s.events ∧ validB s = true := by
  induction l generalizing last with
  | nil => intro s hs; cases hs
  | cons x r ih =>
    obtain ⟨h1, h2, h3, h4⟩ := book_cons.1 h
    intro s hs
    rcases List.mem_cons.1 hs with rfl | hs
    · exact ⟨h1, h2, h3⟩
    · obtain ⟨g1, g2, g3⟩ := ih h4 s hs
      exact ⟨by omega, g2, g3⟩
theorem book_len {last : Int} {l : List St} (h : bookB last l = true) (h0 : 0 ≤ last) (hl : last ≤ 1099511627776) : l.length ≤ 1099511627776 - last.toNat := by
  induction l generalizing last with
  | nil => simp
  | cons x r ih =>
    obtain ⟨h1, h2, h3, h4⟩ := book_cons.1 h
    have ho := (valid_iff.1 h3).order
    have := ih h4 (by omega) ho.2
    rw [List.length_cons]
    omega
def stF (s : St) : Frm := (5, s.order.toNat, encR (refF s))
def bkF (num seq : Nat) (ss : List St) : List Frm := (6, num, venc seq) :: (ss.map stF ++ [(7, num, venc ss.length)])
/-- The bytes of a book, and the error. -/
def bkE (num seq : Int) (ss : List St) : List UInt8 × Nat :=
  if num < 1 ∨ 999999 < num ∨ seq < 1 ∨ 1099511627776 < seq then ([], 1) else if bookB 0 ss = false then ([], 40) else (layF (bkF num.toNat seq.toNat ss), 0)
theorem stF_ok {s : St} (h : validB s = true) : FrOk (stF s) := by
  have hv := valid_iff.1 h
  have h1 := encR_len hv
  have h2 := hv.order
  exact ⟨(by decide : 1 ≤ 5), (by decide : 5 ≤ 7), by show s.order.toNat ≤ _; omega, by show (encR (refF s)).length ≤ _; omega⟩
theorem bkF_ok {num seq : Nat} {ss : List St} (hn : num ≤ 999999) (hs : seq ≤ 1099511627776) (h : bookB 0 ss = true) : ∀ f ∈ bkF num seq ss, FrOk f := by
  intro f hf
  have hl := book_len h (by omega) (by omega)
  rcases List.mem_cons.1 hf with rfl | hf
  · exact ⟨(by decide : 1 ≤ 6), (by decide : 6 ≤ 7), by show num ≤ _; omega, by show (venc seq).length ≤ _; have := venc_len10 seq (by omega); omega⟩
  rcases List.mem_append.1 hf with hf | hf
  · obtain ⟨s, hs, rfl⟩ := List.mem_map.1 hf
    exact stF_ok (book_mem h s hs).2.2
  · rw [List.mem_singleton.1 hf]
    exact ⟨(by decide : 1 ≤ 7), (by decide : 7 ≤ 7), by show num ≤ _; omega, by show (venc ss.length).length ≤ _; have := venc_len10 ss.length (by omega); omega⟩
/-- A body that is one number. -/
def numB (b : List UInt8) : Nat × Bool := ((vdec b).1, decide ((vdec b).2.2 = 0 ∧ (vdec b).2.1 = b.length))
theorem numB_enc {u : Nat} (h : u < 18446744073709551616) : numB (venc u) = (u, true) := by
  have := vdec_enc u [] h
  rw [List.append_nil] at this
  unfold numB
  rw [this]
  simp
theorem numB_inv {b : List UInt8} (h : (numB b).2 = true) : b = venc (numB b).1 ∧ (numB b).1 < 18446744073709551616 := by
  obtain ⟨⟨v, n, e⟩, hv⟩ : ∃ x, x = vdec b := ⟨_, rfl⟩
  unfold numB at h ⊢
  rw [← hv] at h ⊢
  dsimp only at h ⊢
  obtain ⟨h1, h2⟩ := of_decide_eq_true h
  subst h1
  obtain ⟨r, g1, g2, g3⟩ := vdec_inv hv.symm
  have hr : r = [] := by
    have := congrArg List.length g1
    rw [List.length_append] at this
    exact List.eq_nil_of_length_eq_zero (by omega)
  rw [hr, List.append_nil] at g1
  exact ⟨g1, g3⟩
/-- The states of frames that are a book's inner ones. -/
def stsOf : List Frm → Option (List St)
  | [] => some []
  | f :: r => if (canD f.2.2).2 ≠ 0 ∨ f.1 ≠ 5 ∨ (f.2.1 : Int) ≠ (canD f.2.2).1.order then none else (stsOf r).map ((canD f.2.2).1 :: ·)
theorem stsOf_enc {ss : List St} (h : ∀ s ∈ ss, validB s = true) : stsOf (ss.map stF) = some ss := by
  induction ss with
  | nil => rfl
  | cons s r ih =>
    have hs := h s (List.mem_cons_self ..)
    have ho := (valid_iff.1 hs).order
    rw [List.map_cons]
    unfold stsOf
    have hc : canD (stF s).2.2 = (s, 0) := canD_enc hs
    rw [hc, if_neg (by
      rintro (hc | hc | hc)
      · exact hc rfl
      · exact hc rfl
      · exact hc (by show ((s.order.toNat : Nat) : Int) = s.order; omega)), ih fun x hx => h x (List.mem_cons_of_mem _ hx)]
    rfl
theorem stsOf_inv {fs : List Frm} {ss : List St} (h : stsOf fs = some ss) : fs = ss.map stF ∧ ∀ s ∈ ss, validB s = true := by
  induction fs generalizing ss with
  | nil => injection h with h; subst h; exact ⟨rfl, fun s hs => by cases hs⟩
  | cons f r ih =>
    unfold stsOf at h
    split at h
    · cases h
    rename_i h1
    have a1 : (canD f.2.2).2 = 0 := Classical.byContradiction fun hc => h1 (.inl hc)
    have a2 : f.1 = 5 := Classical.byContradiction fun hc => h1 (.inr (.inl hc))
    have a3 : (f.2.1 : Int) = (canD f.2.2).1.order := Classical.byContradiction fun hc => h1 (.inr (.inr hc))
    obtain ⟨r2, h2, rfl⟩ := Option.map_eq_some_iff.1 h
    obtain ⟨g1, g2⟩ := ih h2
    obtain ⟨b1, b2⟩ := canD_inv a1
    refine ⟨?_, fun s hs => ?_⟩
    · rw [List.map_cons, ← g1]
      congr 1
      obtain ⟨k, q, body⟩ := f
      dsimp only at *
      unfold stF
      rw [b2, a2, ← a3]
      simp
    · rcases List.mem_cons.1 hs with rfl | hs
      · exact b1
      · exact g2 s hs
def bkBad : Nat × Nat × List St × Nat := (0, 0, [], 81)
/-- The head's test: first and last frame. -/
def bkHd (fs : List Frm) : Bool :=
  match fs.head?, fs.getLast? with
  | some f, some g => (numB f.2.2).2 && (numB g.2.2).2 && decide (f.1 = 6) && decide (g.1 = 7) && decide (g.2.1 = f.2.1) && decide (1 ≤ f.2.1) && decide (f.2.1 ≤ 999999) && decide (1 ≤ (numB f.2.2).1) && decide ((numB f.2.2).1 ≤ 1099511627776) && decide ((numB g.2.2).1 = fs.length - 2)
  | _, _ => false
/-- What a reading makes of bytes. -/
def bkD (b : List UInt8) : Nat × Nat × List St × Nat :=
  if (scn b).2.2 ≠ 0 ∨ (scn b).1.length < 2 then bkBad
  else if bkHd (scn b).1 = false then bkBad
  else match stsOf ((scn b).1.drop 1).dropLast with
    | none => bkBad
    | some ss => if bookB 0 ss = true then (((scn b).1.headD (0, 0, [])).2.1, (numB ((scn b).1.headD (0, 0, [])).2.2).1, ss, 0) else bkBad
theorem bkD_enc {num seq : Nat} {ss : List St} (h1 : 1 ≤ num) (h2 : num ≤ 999999) (h3 : 1 ≤ seq) (h4 : seq ≤ 1099511627776) (h : bookB 0 ss = true) : bkD (layF (bkF num seq ss)) = (num, seq, ss, 0) := by
  have hok := bkF_ok h2 h4 h
  have hl := book_len h (by omega) (by omega)
  have e1 := numB_enc (show seq < 18446744073709551616 by omega)
  have e2 := numB_enc (show ss.length < 18446744073709551616 by omega)
  have hlast : (bkF num seq ss).getLast? = some (7, num, venc ss.length) := by
    unfold bkF
    rw [← List.cons_append, List.getLast?_append]
    rfl
  have hmid : ((bkF num seq ss).drop 1).dropLast = ss.map stF := by
    show (ss.map stF ++ [_]).dropLast = _
    exact List.dropLast_concat
  have hlen : (bkF num seq ss).length = ss.length + 2 := by simp [bkF]
  unfold bkD
  rw [scn_lay hok]
  dsimp only
  rw [if_neg (by omega), hmid, stsOf_enc fun s hs => (book_mem h s hs).2.2]
  have hh : bkHd (bkF num seq ss) = true := by
    unfold bkHd
    rw [hlast, hlen]
    show (match some ((6, num, venc seq) : Frm), some ((7, num, venc ss.length) : Frm) with
      | some f, some g => _
      | _, _ => false) = true
    dsimp only
    rw [e1, e2]
    simp [h1, h2, h3, h4]
  rw [if_neg (by rw [hh]; simp)]
  dsimp only
  rw [if_pos h]
  show (num, (numB (venc seq)).1, ss, 0) = _
  rw [e1]
theorem bk_list (l : List Frm) (h : 2 ≤ l.length) : ∃ f g, l = f :: ((l.drop 1).dropLast ++ [g]) ∧ l.head? = some f ∧ l.getLast? = some g := by
  match l, h with
  | f :: x :: r, _ =>
    refine ⟨f, (x :: r).getLast (by simp), ?_, rfl, ?_⟩
    · show f :: (x :: r) = _
      congr 1
      exact (List.dropLast_concat_getLast (by simp)).symm
    · rw [List.getLast?_eq_some_getLast (by simp)]
      rfl
theorem bkD_inv {b : List UInt8} (h : bkD b ≠ bkBad) : ∃ num seq ss, bkD b = (num, seq, ss, 0) ∧ 1 ≤ num ∧ num ≤ 999999 ∧ 1 ≤ seq ∧ seq ≤ 1099511627776 ∧ bookB 0 ss = true ∧ b = layF (bkF num seq ss) := by
  have h0 := h
  unfold bkD at h
  split at h
  · exact absurd rfl h
  rename_i h1
  split at h
  · exact absurd rfl h
  rename_i h2
  split at h
  · exact absurd rfl h
  rename_i ss h3
  split at h
  · rename_i h4
    clear h
    have e0 : (scn b).2.2 = 0 := Classical.byContradiction fun hc => h1 (.inl hc)
    obtain ⟨g1, g2⟩ := scn_inv e0
    have hs : bkHd (scn b).1 = true := by simpa using h2
    obtain ⟨f, g, k1, k2, k3⟩ := bk_list (scn b).1 (by omega)
    obtain ⟨m1, m2⟩ := stsOf_inv h3
    have hlen := congrArg List.length k1
    rw [m1, List.length_cons, List.length_append, List.length_map, List.length_singleton] at hlen
    unfold bkHd at hs
    rw [k2, k3] at hs
    simp only [Bool.and_eq_true, decide_eq_true_eq] at hs
    obtain ⟨⟨⟨⟨⟨⟨⟨⟨⟨n1, n2⟩, n3⟩, n4⟩, n5⟩, n6⟩, n7⟩, n8⟩, n9⟩, n10⟩ := hs
    obtain ⟨p1, p2⟩ := numB_inv n1
    obtain ⟨q1, q2⟩ := numB_inv n2
    have hb : b = layF (bkF f.2.1 (numB f.2.2).1 ss) := by
      rw [g1, k1, m1]
      unfold bkF
      congr 1
      obtain ⟨f1, f2, f3⟩ := f
      obtain ⟨q3, q4, q5⟩ := g
      dsimp only at *
      subst n3 n4 n5
      rw [← p1, show ss.length = (numB q5).1 by omega, ← q1]
    refine ⟨f.2.1, (numB f.2.2).1, ss, ?_, n6, n7, n8, n9, h4, hb⟩
    have := bkD_enc n6 n7 n8 n9 h4
    rw [← hb] at this
    exact this
  · exact absurd rfl h
/-- The reference's states: those of the frames of that kind. -/
def rstsOf : List Frm → Option (List St)
  | [] => some []
  | f :: r => if f.1 = 5 then (if (canD f.2.2).2 ≠ 0 then none else (rstsOf r).map ((canD f.2.2).1 :: ·)) else rstsOf r
/-- The reference's Decode: read leniently, and held against the bytes of what was read. -/
def bkR (b : List UInt8) : Nat × Nat × List St × Nat :=
  if (fdec b).2.2 ≠ 0 then bkBad
  else if (vdec (fdec b).1.2.2).2.2 ≠ 0 ∨ 1099511627776 < (vdec (fdec b).1.2.2).1 then bkBad
  else match rstsOf (scn b).1 with
    | none => bkBad
    | some ss => if (bkE (fdec b).1.2.1 (vdec (fdec b).1.2.2).1 ss).2 ≠ 0 ∨ (bkE (fdec b).1.2.1 (vdec (fdec b).1.2.2).1 ss).1 ≠ b then bkBad
      else ((fdec b).1.2.1, (vdec (fdec b).1.2.2).1, ss, 0)
theorem rsts_app {a b : List Frm} {xs ys : List St} (h1 : rstsOf a = some xs) (h2 : rstsOf b = some ys) : rstsOf (a ++ b) = some (xs ++ ys) := by
  induction a generalizing xs with
  | nil => injection h1 with h1; subst h1; exact h2
  | cons f r ih =>
    rw [List.cons_append]
    unfold rstsOf at h1 ⊢
    split at h1
    · rename_i h3
      rw [if_pos h3]
      split at h1
      · cases h1
      · rename_i h4
        rw [if_neg h4]
        obtain ⟨z, h5, rfl⟩ := Option.map_eq_some_iff.1 h1
        rw [ih h5]
        rfl
    · rename_i h3
      rw [if_neg h3]
      exact ih h1
theorem rsts_enc {ss : List St} (h : ∀ s ∈ ss, validB s = true) : rstsOf (ss.map stF) = some ss := by
  induction ss with
  | nil => rfl
  | cons s r ih =>
    have hs := h s (List.mem_cons_self ..)
    rw [List.map_cons]
    unfold rstsOf
    have hc : canD (stF s).2.2 = (s, 0) := canD_enc hs
    rw [if_pos (show (stF s).1 = 5 from rfl), hc, if_neg (by simp), ih fun x hx => h x (List.mem_cons_of_mem _ hx)]
    rfl
theorem bkE_ok {num seq : Nat} {ss : List St} (h1 : 1 ≤ num) (h2 : num ≤ 999999) (h3 : 1 ≤ seq) (h4 : seq ≤ 1099511627776) (h : bookB 0 ss = true) : bkE num seq ss = (layF (bkF num seq ss), 0) := by
  unfold bkE
  rw [if_neg (by omega), if_neg (by rw [h]; simp)]
  simp
theorem bkE_zero {num seq : Int} {ss : List St} (h : (bkE num seq ss).2 = 0) : 1 ≤ num ∧ num ≤ 999999 ∧ 1 ≤ seq ∧ seq ≤ 1099511627776 ∧ bookB 0 ss = true ∧ bkE num seq ss = (layF (bkF num.toNat seq.toNat ss), 0) := by
  unfold bkE at h ⊢
  split at h
  · cases h
  rename_i h1
  rw [if_neg h1]
  split at h
  · cases h
  rename_i h2
  rw [if_neg h2]
  exact ⟨by omega, by omega, by omega, by omega, by simpa using h2, rfl⟩
theorem bkR_enc {num seq : Nat} {ss : List St} (h1 : 1 ≤ num) (h2 : num ≤ 999999) (h3 : 1 ≤ seq) (h4 : seq ≤ 1099511627776) (h : bookB 0 ss = true) : bkR (layF (bkF num seq ss)) = (num, seq, ss, 0) := by
  have hok := bkF_ok h2 h4 h
  have hd : fdec (layF (bkF num seq ss)) = ((6, num, venc seq), 20 + (venc seq).length, 0) := by
    have hf := hok _ (List.mem_cons_self ..)
    exact fdec_enc _ hf.1 hf.2.1 hf.2.2.1 hf.2.2.2
  have hv : vdec (venc seq) = (seq, (venc seq).length, 0) := by
    have := vdec_enc seq [] (by omega)
    rwa [List.append_nil] at this
  have hr : rstsOf (bkF num seq ss) = some ss := by
    show rstsOf (ss.map stF ++ [(7, num, venc ss.length)]) = _
    have := rsts_app (rsts_enc fun s hs => (book_mem h s hs).2.2) (show rstsOf [((7, num, venc ss.length) : Frm)] = some [] from rfl)
    rwa [List.append_nil] at this
  unfold bkR
  rw [hd, scn_lay hok]
  dsimp only
  rw [hv, hr]
  dsimp only
  rw [bkE_ok h1 h2 h3 h4 h]
  dsimp only
  rw [if_neg (by simp), if_neg (by omega), if_neg (by simp)]
theorem bkR_inv {b : List UInt8} (h : bkR b ≠ bkBad) : ∃ num seq ss, 1 ≤ num ∧ num ≤ 999999 ∧ 1 ≤ seq ∧ seq ≤ 1099511627776 ∧ bookB 0 ss = true ∧ b = layF (bkF num seq ss) := by
  unfold bkR at h
  split at h
  · exact absurd rfl h
  split at h
  · exact absurd rfl h
  split at h
  · exact absurd rfl h
  split at h
  · exact absurd rfl h
  rename_i ss _ h3
  have a1 : (bkE (fdec b).1.2.1 (vdec (fdec b).1.2.2).1 ss).2 = 0 := Classical.byContradiction fun hc => h3 (.inl hc)
  have a2 : (bkE (fdec b).1.2.1 (vdec (fdec b).1.2.2).1 ss).1 = b := Classical.byContradiction fun hc => h3 (.inr hc)
  obtain ⟨h1, h2, h3, h4, h5, h6⟩ := bkE_zero a1
  rw [h6] at a2
  exact ⟨_, _, ss, by omega, by omega, by omega, by omega, h5, a2.symm⟩
/-- The lenient reading that is held against the bytes is the strict one. -/
theorem bkR_eq (b : List UInt8) : bkR b = bkD b := by
  by_cases h : bkR b = bkBad
  · rw [h]
    by_cases h2 : bkD b = bkBad
    · rw [h2]
    · obtain ⟨num, seq, ss, g0, g1, g2, g3, g4, g5, g6⟩ := bkD_inv h2
      have := bkR_enc g1 g2 g3 g4 g5
      rw [← g6, h] at this
      cases this
  · obtain ⟨num, seq, ss, g1, g2, g3, g4, g5, g6⟩ := bkR_inv h
    rw [g6, bkR_enc g1 g2 g3 g4 g5, bkD_enc g1 g2 g3 g4 g5]
end Go.Proofs.YtjajbbgebblalaaGreatDoor

namespace Go.Proofs.YtjajbbgebblalaaGreatDoor
open Go.RowKit
set_option linter.unusedVariables false
set_option linter.unusedSimpArgs false
/-- Where the k-th frame found begins. -/
def offB (b : List UInt8) (k : Nat) : Nat := (layF ((scn b).1.take k)).length
theorem lay_app (a c : List Frm) : layF (a ++ c) = layF a ++ layF c := List.flatMap_append
theorem offB_succ {b : List UInt8} {k : Nat} {f : Frm} (h : (scn b).1[k]? = some f) : offB b (k + 1) = offB b k + (20 + f.2.2.length) := by
  unfold offB
  rw [List.take_add_one, h, lay_app, List.length_append]
  simp [layF, frB_len]
theorem scn_from (b : List UInt8) (k : Nat) (hk : k ≤ (scn b).1.length) : scn (b.drop (offB b k)) = ((scn b).1.drop k, (scn b).2.1 - offB b k, (scn b).2.2) := by
  induction k with
  | zero => simp [offB, layF]
  | succ k ih =>
    have ih := ih (by omega)
    obtain ⟨f, hf⟩ : ∃ f, (scn b).1[k]? = some f := ⟨_, List.getElem?_eq_getElem (by omega)⟩
    have hd : (scn b).1.drop k = f :: (scn b).1.drop (k + 1) := by
      have h1 := List.getElem?_eq_some_iff.1 hf
      rw [List.drop_eq_getElem_cons h1.1, h1.2]
    rw [hd] at ih
    have hne : b.drop (offB b k) ≠ [] := fun h => by rw [h, scn_nil] at ih; injection ih with h; cases h
    have h0 : (fdec (b.drop (offB b k))).2.2 = 0 := by
      by_cases hc : (fdec (b.drop (offB b k))).2.2 = 0
      · exact hc
      · rw [scn_bad hne hc] at ih; injection ih with h; cases h
    rw [scn_cons hne h0] at ih
    injection ih with h1 h2
    injection h1 with h3 h4
    injection h2 with h5 h6
    have hs := (fdec_size h0).2.2.2.2
    rw [h3] at hs
    rw [offB_succ hf, ← List.drop_drop, ← hs]
    refine Prod.ext h4 (Prod.ext ?_ h6)
    show (scn _).2.1 = (scn b).2.1 - (offB b k + (fdec (b.drop (offB b k))).2.1)
    omega
theorem scn_step {b : List UInt8} {k : Nat} {f : Frm} (h : (scn b).1[k]? = some f) : fdec (b.drop (offB b k)) = (f, 20 + f.2.2.length, 0) ∧ offB b k < b.length := by
  have hk := (List.getElem?_eq_some_iff.1 h).1
  have hs := scn_from b k (by omega)
  have hd : (scn b).1.drop k = f :: (scn b).1.drop (k + 1) := by
    have h1 := List.getElem?_eq_some_iff.1 h
    rw [List.drop_eq_getElem_cons h1.1, h1.2]
  rw [hd] at hs
  have hne : b.drop (offB b k) ≠ [] := fun h => by rw [h, scn_nil] at hs; injection hs with h; cases h
  have h0 : (fdec (b.drop (offB b k))).2.2 = 0 := by
    by_cases hc : (fdec (b.drop (offB b k))).2.2 = 0
    · exact hc
    · rw [scn_bad hne hc] at hs; injection hs with h; cases h
  rw [scn_cons hne h0] at hs
  injection hs with h1 h2
  injection h1 with h3 h4
  have hz := (fdec_size h0).2.2.2.2
  rw [h3] at hz
  refine ⟨Prod.ext h3 (Prod.ext hz h0), ?_⟩
  have : 0 < (b.drop (offB b k)).length := List.length_pos_iff.2 hne
  rw [List.length_drop] at this
  omega
theorem offB_end (b : List UInt8) : offB b (scn b).1.length = (scn b).2.1 := by
  unfold offB
  rw [List.take_length]
  exact (scn_good b).1.symm
theorem offB_le (b : List UInt8) (k : Nat) (hk : k ≤ (scn b).1.length) : offB b k ≤ b.length := by
  have h1 := offB_end b
  have h2 := (scn_good b).2.1
  have h3 : offB b k ≤ offB b (scn b).1.length := by
    unfold offB
    rw [List.take_length]
    have e := congrArg (fun x => (layF x).length) (List.take_append_drop k (scn b).1)
    simp only [lay_app, List.length_append] at e
    omega
  omega
/-- The frames found, with their places. -/
def plcs (b : List UInt8) (k : Nat) : List (Nat × Frm) := (List.range k).filterMap fun j => ((scn b).1[j]?).map fun f => (offB b j, f)
theorem plcs_succ {b : List UInt8} {k : Nat} {f : Frm} (h : (scn b).1[k]? = some f) : plcs b (k + 1) = plcs b k ++ [(offB b k, f)] := by
  unfold plcs
  rw [List.range_succ, List.filterMap_append]
  simp [h]
theorem plcs_frm (b : List UInt8) (k : Nat) (hk : k ≤ (scn b).1.length) : (plcs b k).map (·.2) = (scn b).1.take k := by
  induction k with
  | zero => rfl
  | succ k ih =>
    obtain ⟨f, hf⟩ : ∃ f, (scn b).1[k]? = some f := ⟨_, List.getElem?_eq_getElem (by omega)⟩
    rw [plcs_succ hf, List.map_append, ih (by omega), List.take_add_one, hf]
    rfl
theorem plcs_len (b : List UInt8) (k : Nat) (hk : k ≤ (scn b).1.length) : (plcs b k).length = k := by
  have := congrArg List.length (plcs_frm b k hk)
  rw [List.length_map, List.length_take] at this
  omega
end Go.Proofs.YtjajbbgebblalaaGreatDoor
