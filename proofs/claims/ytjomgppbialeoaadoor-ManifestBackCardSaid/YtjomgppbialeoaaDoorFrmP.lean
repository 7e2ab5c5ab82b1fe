/-
  The plain law of lists of numbers and of frames: what is written is read, and what is read is what would be written. No program in sight.
-/
import Derived.Test.YtjomgppbialeoaaDoorCrcP
namespace Go.Proofs.YtjomgppbialeoaaDoor
open Go.RowKit
set_option linter.unusedVariables false
set_option linter.unusedSimpArgs false
def vsenc (us : List Nat) : List UInt8 := venc us.length ++ us.flatMap venc
def vsdecF : Nat → List UInt8 → List Nat → Nat → List Nat × Nat × Nat
  | 0, _, us, at_ => (us, at_, 0)
  | n + 1, b, us, at_ => if (vdec b).2.2 ≠ 0 then ([], 0, (vdec b).2.2) else vsdecF n (b.drop (vdec b).2.1) (us ++ [(vdec b).1]) (at_ + (vdec b).2.1)
/-- What DecodeAll answers: the numbers, how many bytes, the error. -/
def vsdec (b : List UInt8) (most : Nat) : List Nat × Nat × Nat :=
  if (vdec b).2.2 ≠ 0 then ([], 0, (vdec b).2.2) else if most < (vdec b).1 then ([], 0, 24) else vsdecF (vdec b).1 (b.drop (vdec b).2.1) [] (vdec b).2.1
theorem vsdecF_enc (us pre : List Nat) (r : List UInt8) (at_ : Nat) (h : ∀ u ∈ us, u < 18446744073709551616) :
    vsdecF us.length (us.flatMap venc ++ r) pre at_ = (pre ++ us, at_ + (us.flatMap venc).length, 0) := by
  induction us generalizing pre at_ with
  | nil => simp [vsdecF]
  | cons u us ih =>
    have hd := vdec_enc u (us.flatMap venc ++ r) (h u (List.mem_cons_self ..))
    show vsdecF (us.length + 1) (venc u ++ us.flatMap venc ++ r) pre at_ = _
    rw [List.append_assoc]
    unfold vsdecF
    rw [hd]
    dsimp only
    rw [if_neg (by simp), List.drop_left' rfl, ih _ _ (fun v hv => h v (List.mem_cons_of_mem _ hv))]
    simp [List.flatMap_cons]
    omega
theorem vsdec_enc (us : List Nat) (r : List UInt8) {most : Nat} (hm : us.length ≤ most) (hl : us.length < 18446744073709551616) (h : ∀ u ∈ us, u < 18446744073709551616) :
    vsdec (vsenc us ++ r) most = (us, (vsenc us).length, 0) := by
  unfold vsdec vsenc
  rw [List.append_assoc, vdec_enc _ _ hl]
  dsimp only
  rw [if_neg (by simp), if_neg (by omega), List.drop_left' rfl, vsdecF_enc us [] r _ h]
  simp
theorem vsdecF_inv (n : Nat) (b : List UInt8) (pre us : List Nat) (at_ m : Nat) (h : vsdecF n b pre at_ = (us, m, 0)) :
    ∃ vs r, us = pre ++ vs ∧ vs.length = n ∧ b = vs.flatMap venc ++ r ∧ m = at_ + (vs.flatMap venc).length ∧ ∀ u ∈ vs, u < 18446744073709551616 := by
  induction n generalizing b pre at_ with
  | zero =>
    unfold vsdecF at h
    injection h with h1 h2
    injection h2 with h2 _
    exact ⟨[], b, by simp [h1], rfl, by simp, by simp [h2], fun u hu => by cases hu⟩
  | succ n ih =>
    unfold vsdecF at h
    by_cases he : (vdec b).2.2 = 0
    · rw [if_neg (by simp [he])] at h
      obtain ⟨vs, r, h1, h2, h3, h4, h5⟩ := ih _ _ _ h
      obtain ⟨v, k, e⟩ : ∃ v k, vdec b = (v, k, 0) := ⟨_, _, by rw [← he]⟩
      obtain ⟨r2, hb, hk, hv⟩ := vdec_inv e
      rw [e] at h1 h3 h4
      dsimp only at h1 h3 h4
      refine ⟨v :: vs, r, by rw [h1, List.append_assoc]; rfl, by simp [h2], ?_, ?_, ?_⟩
      · rw [List.flatMap_cons, List.append_assoc, ← h3, hb, hk, List.drop_left' rfl]
      · rw [List.flatMap_cons, List.length_append, h4, hk]; omega
      · intro u hu
        rcases List.mem_cons.1 hu with rfl | hu
        · exact hv
        · exact h5 u hu
    · rw [if_pos (by simp [he])] at h
      injection h with _ h2
      injection h2 with _ h3
      exact absurd h3 he
theorem vsdec_inv {b : List UInt8} {most m : Nat} {us : List Nat} (h : vsdec b most = (us, m, 0)) : ∃ r, b = vsenc us ++ r ∧ m = (vsenc us).length ∧ us.length ≤ most ∧ ∀ u ∈ us, u < 18446744073709551616 := by
  unfold vsdec at h
  by_cases he : (vdec b).2.2 = 0
  · rw [if_neg (by simp [he])] at h
    by_cases hm : most < (vdec b).1
    · rw [if_pos hm] at h; injection h with _ h; injection h with _ h; cases h
    · rw [if_neg hm] at h
      obtain ⟨vs, r, h1, h2, h3, h4, h5⟩ := vsdecF_inv _ _ _ _ _ _ h
      obtain ⟨v, k, e⟩ : ∃ v k, vdec b = (v, k, 0) := ⟨_, _, by rw [← he]⟩
      obtain ⟨r2, hb, hk, hv⟩ := vdec_inv e
      rw [e] at h2 h3 h4 hm
      dsimp only at h2 h3 h4 hm
      rw [List.nil_append] at h1
      subst h1
      refine ⟨r, ?_, ?_, by omega, h5⟩
      · unfold vsenc
        rw [h2, List.append_assoc, ← h3, hb, hk, List.drop_left' rfl]
      · unfold vsenc
        rw [h2, List.length_append, h4, hk]
  · rw [if_pos (by simp [he])] at h; injection h with _ h; injection h with _ h; exact absurd h he
/-- Eight bytes, the lowest first. -/
def le8 (s : Nat) : List UInt8 := (List.range 8).map fun i => UInt8.ofNat (s / 256 ^ i % 256)
def un8 : List UInt8 → Nat
  | [] => 0
  | x :: r => x.toNat + 256 * un8 r
def fhead (kind seq n : Nat) : List UInt8 := [165, UInt8.ofNat kind, UInt8.ofNat (n % 256), UInt8.ofNat (n / 256)] ++ le8 seq
/-- The bytes of a frame. -/
def fenc (kind seq : Nat) (body : List UInt8) : List UInt8 := fhead kind seq body.length ++ (four (csum (fhead kind seq body.length)) ++ (body ++ four (csum body)))
def ferr (kind seq : Int) (n : Nat) : Nat := if kind < 1 ∨ 7 < kind ∨ seq < 0 ∨ 1099511627776 < seq then 63 else if 16384 < n then 24 else 0
theorem le8_len (s : Nat) : (le8 s).length = 8 := rfl
theorem fhead_len (k s n : Nat) : (fhead k s n).length = 12 := rfl
theorem fenc_len (k s : Nat) (b : List UInt8) : (fenc k s b).length = 20 + b.length := by
  unfold fenc
  rw [List.length_append, List.length_append, List.length_append, fhead_len, four_len, four_len]; omega
theorem un8_le8 (s : Nat) (h : s < 18446744073709551616) : un8 (le8 s) = s := by
  simp only [le8, List.range, List.range.loop, List.map_cons, List.map_nil, un8]
  simp only [UInt8.toNat_ofNat']
  simp only [Nat.reducePow]
  omega
theorem b_of (x : UInt8) : UInt8.ofNat x.toNat = x := by simp
theorem le8_un8 (b : List UInt8) (h : b.length = 8) : le8 (un8 b) = b := by
  match b, h with
  | [x0, x1, x2, x3, x4, x5, x6, x7], _ =>
    have h0 := x0.toNat_lt; have h1 := x1.toNat_lt; have h2 := x2.toNat_lt; have h3 := x3.toNat_lt
    have h4 := x4.toNat_lt; have h5 := x5.toNat_lt; have h6 := x6.toNat_lt; have h7 := x7.toNat_lt
    simp only [le8, List.range, List.range.loop, List.map_cons, List.map_nil, un8]
    simp only [Nat.reducePow]
    simp only [List.cons.injEq, and_true]
    refine ⟨?_, ?_, ?_, ?_, ?_, ?_, ?_, ?_⟩
    · conv => rhs; rw [← b_of x0]
      congr 1; omega
    · conv => rhs; rw [← b_of x1]
      congr 1; omega
    · conv => rhs; rw [← b_of x2]
      congr 1; omega
    · conv => rhs; rw [← b_of x3]
      congr 1; omega
    · conv => rhs; rw [← b_of x4]
      congr 1; omega
    · conv => rhs; rw [← b_of x5]
      congr 1; omega
    · conv => rhs; rw [← b_of x6]
      congr 1; omega
    · conv => rhs; rw [← b_of x7]
      congr 1; omega
theorem un8_pow (b : List UInt8) : un8 b < 256 ^ b.length := by
  induction b with
  | nil => decide
  | cons x r ih =>
    have h := x.toNat_lt
    rw [List.length_cons, Nat.pow_succ]
    unfold un8
    omega
theorem un8_lt (b : List UInt8) (h : b.length = 8) : un8 b < 18446744073709551616 := by
  have := un8_pow b
  rw [h] at this
  exact this
def fk (b : List UInt8) : Nat := (b.getD 1 0).toNat
def fn (b : List UInt8) : Nat := (b.getD 2 0).toNat + 256 * (b.getD 3 0).toNat
def fs8 (b : List UInt8) : Nat := un8 ((b.drop 4).take 8)
/-- What Peek answers: kind, number, size, error. -/
def fpeek (b : List UInt8) : Nat × Nat × Nat × Nat :=
  if b.length < 16 then (0, 0, 0, 60)
  else if b.getD 0 0 ≠ 165 then (0, 0, 0, 61)
  else if (b.drop 12).take 4 ≠ four (csum (b.take 12)) then (0, 0, 0, 62)
  else if fk b < 1 ∨ 7 < fk b ∨ 16384 < fn b ∨ 1099511627776 < fs8 b then (0, 0, 0, 63)
  else (fk b, fs8 b, 20 + fn b, 0)
/-- What Decode answers: kind, number, body, size, error. -/
def fdec (b : List UInt8) : (Nat × Nat × List UInt8) × Nat × Nat :=
  if (fpeek b).2.2.2 ≠ 0 then ((0, 0, []), 0, (fpeek b).2.2.2)
  else if b.length < (fpeek b).2.2.1 then ((0, 0, []), 0, 60)
  else if (b.drop (16 + fn b)).take 4 ≠ four (csum ((b.drop 16).take (fn b))) then ((0, 0, []), 0, 62)
  else (((fpeek b).1, (fpeek b).2.1, (b.drop 16).take (fn b)), (fpeek b).2.2.1, 0)
theorem fpeek_ok {b : List UInt8} (h : (fpeek b).2.2.2 = 0) : 16 ≤ b.length ∧ b.getD 0 0 = 165 ∧ (b.drop 12).take 4 = four (csum (b.take 12)) ∧ 1 ≤ fk b ∧ fk b ≤ 7 ∧ fn b ≤ 16384 ∧ fs8 b ≤ 1099511627776 ∧ fpeek b = (fk b, fs8 b, 20 + fn b, 0) := by
  unfold fpeek at h ⊢
  split at h
  · cases h
  split at h
  · cases h
  split at h
  · cases h
  split at h
  · cases h
  rename_i h1 h2 h3 h4
  rw [if_neg h1, if_neg h2, if_neg h3, if_neg h4]
  exact ⟨by omega, by simpa using h2, by simpa using h3, by omega, by omega, by omega, by omega, rfl⟩
theorem take12 {b : List UInt8} (h : 12 ≤ b.length) : b.take 12 = b.getD 0 0 :: b.getD 1 0 :: b.getD 2 0 :: b.getD 3 0 :: (b.drop 4).take 8 := by
  match b, h with
  | x0 :: x1 :: x2 :: x3 :: r, _ => rfl
theorem fhead_of {b : List UInt8} (h1 : 12 ≤ b.length) (h2 : b.getD 0 0 = 165) : b.take 12 = fhead (fk b) (fs8 b) (fn b) := by
  have h := take12 h1
  rw [h, h2]
  unfold fhead fk fs8 fn
  rw [le8_un8 _ (by rw [List.length_take, List.length_drop]; omega)]
  have g1 := (b.getD 2 0).toNat_lt
  have g2 := (b.getD 3 0).toNat_lt
  rw [b_of, show ((b.getD 2 0).toNat + 256 * (b.getD 3 0).toNat) % 256 = (b.getD 2 0).toNat by omega, show ((b.getD 2 0).toNat + 256 * (b.getD 3 0).toNat) / 256 = (b.getD 3 0).toNat by omega, b_of, b_of]
  rfl
theorem fdec_inv {b body : List UInt8} {k s n : Nat} (h : fdec b = ((k, s, body), n, 0)) : ∃ r, b = fenc k s body ++ r ∧ n = 20 + body.length ∧ 1 ≤ k ∧ k ≤ 7 ∧ s ≤ 1099511627776 ∧ body.length ≤ 16384 := by
  unfold fdec at h
  split at h
  · rename_i h0; injection h with _ h; injection h with _ h; exact absurd h h0
  rename_i h0
  split at h
  · injection h with _ h; injection h with _ h; cases h
  rename_i h1
  split at h
  · injection h with _ h; injection h with _ h; cases h
  rename_i h2
  obtain ⟨p1, p2, p3, p4, p5, p6, p7, p8⟩ := fpeek_ok (b := b) (by simpa using h0)
  rw [p8] at h h1
  dsimp only at h h1
  injection h with h3 h4
  injection h3 with h5 h6
  injection h6 with h6 h7
  injection h4 with h4 _
  subst h5 h6 h7 h4
  have hl : ((b.drop 16).take (fn b)).length = fn b := by rw [List.length_take, List.length_drop]; omega
  refine ⟨b.drop (20 + fn b), ?_, by rw [hl], p4, p5, p7, by rw [hl]; exact p6⟩
  have e1 := fhead_of (b := b) (by omega) p2
  unfold fenc
  rw [hl, ← e1, ← p3]
  have h2' : (b.drop (16 + fn b)).take 4 = four (csum ((b.drop 16).take (fn b))) := by simpa using h2
  rw [← h2']
  have a1 : b.drop 12 = (b.drop 12).take 4 ++ b.drop 16 := by
    rw [show b.drop 16 = (b.drop 12).drop 4 by rw [List.drop_drop], List.take_append_drop]
  have a2 : b.drop 16 = (b.drop 16).take (fn b) ++ b.drop (16 + fn b) := by
    rw [show b.drop (16 + fn b) = (b.drop 16).drop (fn b) by rw [List.drop_drop], List.take_append_drop]
  have a3 : b.drop (16 + fn b) = (b.drop (16 + fn b)).take 4 ++ b.drop (20 + fn b) := by
    rw [show b.drop (20 + fn b) = (b.drop (16 + fn b)).drop 4 by rw [List.drop_drop]; congr 1; omega, List.take_append_drop]
  conv => lhs; rw [← List.take_append_drop 12 b, a1, a2, a3]
  simp only [List.append_assoc]
theorem getD_app {a r : List UInt8} {i : Nat} (h : i < a.length) : (a ++ r).getD i 0 = a.getD i 0 := by
  rw [List.getD_eq_getElem?_getD, List.getD_eq_getElem?_getD, List.getElem?_append_left h]
theorem fdec_enc {k s : Nat} {body : List UInt8} (r : List UInt8) (h1 : 1 ≤ k) (h2 : k ≤ 7) (h3 : s ≤ 1099511627776) (h4 : body.length ≤ 16384) : fdec (fenc k s body ++ r) = ((k, s, body), 20 + body.length, 0) := by
  obtain ⟨H, hH⟩ : ∃ H, H = fhead k s body.length := ⟨_, rfl⟩
  obtain ⟨F, hF⟩ : ∃ F, F = four (csum H) := ⟨_, rfl⟩
  obtain ⟨G, hG⟩ : ∃ G, G = four (csum body) := ⟨_, rfl⟩
  have lH : H.length = 12 := by rw [hH]; rfl
  have lF : F.length = 4 := by rw [hF]; rfl
  have lG : G.length = 4 := by rw [hG]; rfl
  have e : fenc k s body ++ r = H ++ (F ++ (body ++ (G ++ r))) := by unfold fenc; rw [← hH, ← hF, ← hG]; simp only [List.append_assoc]
  rw [e]
  obtain ⟨B, hB⟩ : ∃ B, B = H ++ (F ++ (body ++ (G ++ r))) := ⟨_, rfl⟩
  have lB : B.length = 20 + body.length + r.length := by rw [hB]; simp only [List.length_append]; omega
  have t12 : B.take 12 = H := by rw [hB, ← lH, List.take_left' rfl]
  have d12 : (B.drop 12).take 4 = F := by rw [hB, List.drop_left' lH, List.take_left' lF]
  have d16 : B.drop 16 = body ++ (G ++ r) := by
    rw [hB, show H ++ (F ++ (body ++ (G ++ r))) = (H ++ F) ++ (body ++ (G ++ r)) by rw [List.append_assoc], List.drop_left' (by rw [List.length_append]; omega)]
  have g0 : ∀ i, i < 12 → B.getD i 0 = H.getD i 0 := fun i hi => by rw [hB]; exact getD_app (by omega)
  have q0 : B.getD 0 0 = 165 := by rw [g0 0 (by decide), hH]; rfl
  have q1 : fk B = k := by
    unfold fk; rw [g0 1 (by decide), hH]
    show (UInt8.ofNat k).toNat = k
    exact toNat_ofNat (by omega)
  have q2 : fn B = body.length := by
    unfold fn; rw [g0 2 (by decide), g0 3 (by decide), hH]
    show (UInt8.ofNat (body.length % 256)).toNat + 256 * (UInt8.ofNat (body.length / 256)).toNat = body.length
    rw [toNat_ofNat (by omega), toNat_ofNat (by omega)]; omega
  have q3 : fs8 B = s := by
    unfold fs8
    have : (B.drop 4).take 8 = le8 s := by
      have h := take12 (b := B) (by omega)
      rw [t12, hH] at h
      unfold fhead at h
      simp only [List.cons_append, List.nil_append, List.cons.injEq] at h
      exact h.2.2.2.2.symm
    rw [this]
    exact un8_le8 s (by omega)
  have pk : fpeek B = (k, s, 20 + body.length, 0) := by
    unfold fpeek
    rw [if_neg (by omega), if_neg (by rw [q0]; simp), if_neg (by rw [d12, t12, hF]; simp), q1, q2, q3, if_neg (by omega)]
  rw [← hB]
  unfold fdec
  rw [pk, q2]
  dsimp only
  rw [if_neg (by simp), if_neg (by omega)]
  have t1 : (B.drop 16).take body.length = body := by rw [d16, List.take_left' rfl]
  have t2 : (B.drop (16 + body.length)).take 4 = G := by
    rw [show B.drop (16 + body.length) = (B.drop 16).drop body.length by rw [List.drop_drop], d16, List.drop_left' rfl, List.take_left' lG]
  rw [t1, t2, if_neg (by rw [hG]; simp)]
end Go.Proofs.YtjomgppbialeoaaDoor
