/-
  Plain laws of the shares: what is left over goes to the greatest rests, one each. No program is walked here.
-/
import Derived.Test.YtjomgppbialeoaaGreatNumP
namespace Go.Proofs.YtjomgppbialeoaaGreat
open Go.RowKit
set_option linter.unusedVariables false
set_option linter.unusedSimpArgs false
def sumF (f : Nat → Nat) : Nat → Nat
  | 0 => 0
  | n + 1 => sumF f n + f n
theorem sumF_le {f g : Nat → Nat} : ∀ n, (∀ i, i < n → f i ≤ g i) → sumF f n ≤ sumF g n
  | 0, _ => Nat.le_refl _
  | n + 1, h => Nat.add_le_add (sumF_le n fun i hi => h i (by omega)) (h n (by omega))
theorem sumF_congr {f g : Nat → Nat} : ∀ n, (∀ i, i < n → f i = g i) → sumF f n = sumF g n
  | 0, _ => rfl
  | n + 1, h => by unfold sumF; rw [sumF_congr n fun i hi => h i (by omega), h n (by omega)]
theorem sumF_add (f g : Nat → Nat) : ∀ n, sumF (fun i => f i + g i) n = sumF f n + sumF g n
  | 0 => rfl
  | n + 1 => by simp only [sumF, sumF_add f g n]; omega
theorem sumF_mul (c : Nat) (f : Nat → Nat) : ∀ n, sumF (fun i => c * f i) n = c * sumF f n
  | 0 => rfl
  | n + 1 => by simp only [sumF, sumF_mul c f n, Nat.mul_add]
theorem sumF_mono {f : Nat → Nat} {k n : Nat} (h : k ≤ n) : sumF f k ≤ sumF f n := by
  induction n with
  | zero => have : k = 0 := by omega
            subst this; exact Nat.le_refl _
  | succ n ih =>
    by_cases hk : k = n + 1
    · subst hk; exact Nat.le_refl _
    · have := ih (by omega)
      simp only [sumF]
      omega
theorem sumF_one_le {f : Nat → Nat} {i n : Nat} (h : i < n) : f i ≤ sumF f n := by
  have : sumF f (i + 1) ≤ sumF f n := sumF_mono h
  simp only [sumF] at this
  omega
theorem sumF_lt {f g : Nat → Nat} {n i : Nat} (h : ∀ j, j < n → f j ≤ g j) (hi : i < n) (hs : f i < g i) : sumF f n < sumF g n := by
  induction n with
  | zero => omega
  | succ n ih =>
    simp only [sumF]
    have h1 := sumF_le (f := f) (g := g) n fun j hj => h j (by omega)
    have h2 := h n (by omega)
    by_cases hin : i = n
    · subst hin; omega
    · have := ih (fun j hj => h j (by omega)) (by omega); omega
theorem sumF_pos {f : Nat → Nat} : ∀ {n}, 0 < sumF f n → ∃ i, i < n ∧ 0 < f i
  | 0, h => by simp [sumF] at h
  | n + 1, h => by
    by_cases h0 : 0 < f n
    · exact ⟨n, by omega, h0⟩
    · simp only [sumF] at h
      obtain ⟨i, hi, hp⟩ := sumF_pos (f := f) (n := n) (by omega)
      exact ⟨i, by omega, hp⟩
theorem sumF_zero : ∀ n, sumF (fun _ => 0) n = 0
  | 0 => rfl
  | n + 1 => by simp only [sumF, sumF_zero n]
/-- One place set from 0 to 1. -/
theorem sumF_set {f g : Nat → Nat} {n a : Nat} (ha : a < n) (h : ∀ j, j < n → j ≠ a → g j = f j) (h1 : g a = f a + 1) : sumF g n = sumF f n + 1 := by
  induction n with
  | zero => omega
  | succ n ih =>
    simp only [sumF]
    by_cases han : a = n
    · subst han
      rw [sumF_congr a fun i hi => h i (by omega) (by omega), h1]; omega
    · rw [ih (by omega) fun j hj => h j (by omega), h n (by omega) (by omega)]; omega

def amax (r : Nat → Nat) : Nat → Nat
  | 0 => 0
  | k + 1 => if r (amax r k) < r k then k else amax r k
theorem amax_le (r : Nat → Nat) : ∀ n, amax r n ≤ n
  | 0 => Nat.le_refl _
  | n + 1 => by have := amax_le r n; unfold amax; split <;> omega
theorem amax_lt (r : Nat → Nat) : ∀ n, 0 < n → amax r n < n
  | 0, h => absurd h (by omega)
  | n + 1, _ => by have := amax_le r n; unfold amax; split <;> omega
theorem amax_max (r : Nat → Nat) : ∀ n j, j < n → r j ≤ r (amax r n)
  | 0, _, h => absurd h (by omega)
  | n + 1, j, h => by
    unfold amax
    have hm := fun hj => amax_max r n j hj
    by_cases hj : j = n
    · subst hj; split <;> omega
    · have := hm (by omega)
      split <;> omega
theorem amax_first (r : Nat → Nat) : ∀ n j, j < amax r n → r j < r (amax r n)
  | 0, _, h => by simp [amax] at h
  | n + 1, j, h => by
    unfold amax at h ⊢
    split
    · rename_i hc
      rw [if_pos hc] at h
      have := amax_max r n j h
      omega
    · rename_i hc
      rw [if_neg hc] at h
      exact amax_first r n j h

def rz (r : Nat → Nat) (C : Nat → Bool) : Nat → Nat := fun i => if C i then 0 else r i
def giveC (r : Nat → Nat) (n : Nat) : Nat → Nat → Bool
  | 0 => fun _ => false
  | k + 1 => fun j => decide (j = amax (rz r (giveC r n k)) n) || giveC r n k j
def upd (f : Nat → Nat) (i x : Nat) : Nat → Nat := fun j => if j = i then x else f j
def bef (r : Nat → Nat) (i j : Nat) : Bool := decide (r j < r i) || (decide (r j = r i) && decide (i < j))
theorem upd_r (r : Nat → Nat) (n k : Nat) : upd (rz r (giveC r n k)) (amax (rz r (giveC r n k)) n) 0 = rz r (giveC r n (k + 1)) := by
  funext j
  simp only [upd, giveC]
  by_cases h : j = amax (rz r (giveC r n k)) n
  · rw [if_pos h]; simp [rz, h]
  · rw [if_neg h]; simp [rz, h]
theorem upd_q (q r : Nat → Nat) (n k : Nat) (h : giveC r n k (amax (rz r (giveC r n k)) n) = false) :
    upd (fun i => q i + (giveC r n k i).toNat) (amax (rz r (giveC r n k)) n) (q (amax (rz r (giveC r n k)) n) + (giveC r n k (amax (rz r (giveC r n k)) n)).toNat + 1) = fun i => q i + (giveC r n (k + 1) i).toNat := by
  funext j
  simp only [upd, giveC]
  by_cases hj : j = amax (rz r (giveC r n k)) n
  · rw [if_pos hj, hj, h]; simp
  · rw [if_neg hj]; simp [hj]
theorem give_inv (r : Nat → Nat) (n S left : Nat) (hS : 0 < S) (hr : ∀ i, i < n → r i < S) (hl : left * S ≤ sumF r n) : ∀ k, k ≤ left →
    sumF (fun i => (giveC r n k i).toNat) n = k ∧ (∀ i j, i < n → j < n → giveC r n k i = true → giveC r n k j = false → bef r i j = true) ∧ (∀ i, i < n → giveC r n k i = true → 0 < r i) ∧
      (k < left → giveC r n k (amax (rz r (giveC r n k)) n) = false ∧ 0 < n)
  | k, hk => by
    have hrest : sumF (fun i => (giveC r n k i).toNat) n = k → (∀ i j, i < n → j < n → giveC r n k i = true → giveC r n k j = false → bef r i j = true) → (∀ i, i < n → giveC r n k i = true → 0 < r i) → (k < left → 0 < rz r (giveC r n k) (amax (rz r (giveC r n k)) n) ∧ 0 < n) := fun h1 _ _ hkl => by
      have h2 : sumF r n ≤ sumF (fun i => rz r (giveC r n k) i + S * (giveC r n k i).toNat) n := sumF_le n fun i hi => by
        have := hr i hi
        unfold rz
        cases giveC r n k i <;> simp <;> omega
      rw [sumF_add, sumF_mul, h1] at h2
      have h3 : S * k < left * S := by rw [Nat.mul_comm S k]; exact (Nat.mul_lt_mul_right hS).2 hkl
      obtain ⟨i, hi, hp⟩ := sumF_pos (f := rz r (giveC r n k)) (n := n) (by omega)
      have := amax_max (rz r (giveC r n k)) n i hi
      exact ⟨by omega, by omega⟩
    have hlast : 0 < rz r (giveC r n k) (amax (rz r (giveC r n k)) n) → giveC r n k (amax (rz r (giveC r n k)) n) = false := fun h => by
      cases hc : giveC r n k (amax (rz r (giveC r n k)) n)
      · rfl
      · simp [rz, hc] at h
    match k, hk with
    | 0, hk =>
      have a1 : sumF (fun i => (giveC r n 0 i).toNat) n = 0 := by simp [giveC, sumF_zero]
      have a2 : ∀ i j, i < n → j < n → giveC r n 0 i = true → giveC r n 0 j = false → bef r i j = true := fun i j _ _ h => by simp [giveC] at h
      have a3 : ∀ i, i < n → giveC r n 0 i = true → 0 < r i := fun i _ h => by simp [giveC] at h
      exact ⟨a1, a2, a3, fun h => ⟨hlast (hrest a1 a2 a3 h).1, (hrest a1 a2 a3 h).2⟩⟩
    | k + 1, hk =>
      obtain ⟨h1, h2, h3, h4⟩ := give_inv r n S left hS hr hl k (by omega)
      obtain ⟨h5, h6⟩ := h4 (by omega)
      have ha := amax_lt (rz r (giveC r n k)) n h6
      have hm := amax_max (rz r (giveC r n k)) n
      have hf := amax_first (rz r (giveC r n k)) n
      have hpos : 0 < rz r (giveC r n k) (amax (rz r (giveC r n k)) n) := by
        have h7 : sumF r n ≤ sumF (fun i => rz r (giveC r n k) i + S * (giveC r n k i).toNat) n := sumF_le n fun i hi => by
          have := hr i hi
          unfold rz
          cases giveC r n k i <;> simp <;> omega
        rw [sumF_add, sumF_mul, h1] at h7
        have h8 : S * k < left * S := by rw [Nat.mul_comm S k]; exact (Nat.mul_lt_mul_right hS).2 (by omega)
        obtain ⟨i, hi, hp⟩ := sumF_pos (f := rz r (giveC r n k)) (n := n) (by omega)
        have := hm i hi
        omega
      have hra : rz r (giveC r n k) (amax (rz r (giveC r n k)) n) = r (amax (rz r (giveC r n k)) n) := by simp [rz, h5]
      have a1 : sumF (fun i => (giveC r n (k + 1) i).toNat) n = k + 1 := by
        rw [sumF_set (f := fun i => (giveC r n k i).toNat) ha (fun j _ hj => by simp [giveC, hj]) (by simp [giveC, h5]), h1]
      have a2 : ∀ i j, i < n → j < n → giveC r n (k + 1) i = true → giveC r n (k + 1) j = false → bef r i j = true := fun i j hi hj hci hcj => by
        simp only [giveC, Bool.or_eq_true, Bool.or_eq_false_iff, decide_eq_true_eq, decide_eq_false_iff_not] at hci hcj
        rcases hci with rfl | hci
        · have hj1 := hm j hj
          have hj2 : rz r (giveC r n k) j = r j := by simp [rz, hcj.2]
          have hj3 := hf j
          rw [hj2] at hj1 hj3
          rw [hra] at hj1 hj3
          unfold bef
          simp only [Bool.or_eq_true, Bool.and_eq_true, decide_eq_true_eq]
          have := hcj.1
          omega
        · exact h2 i j hi hj hci hcj.2
      have a3 : ∀ i, i < n → giveC r n (k + 1) i = true → 0 < r i := fun i hi hc => by
        simp only [giveC, Bool.or_eq_true, decide_eq_true_eq] at hc
        rcases hc with rfl | hc
        · omega
        · exact h3 i hi hc
      exact ⟨a1, a2, a3, fun h => ⟨hlast (hrest a1 a2 a3 h).1, (hrest a1 a2 a3 h).2⟩⟩
theorem bef_asymm (r : Nat → Nat) (i j : Nat) (h : bef r i j = true) : bef r j i = false := by
  unfold bef at *
  simp only [Bool.or_eq_true, Bool.and_eq_true, decide_eq_true_eq, Bool.or_eq_false_iff, Bool.and_eq_false_iff, decide_eq_false_iff_not] at *
  omega
/-- Who is chosen: those before whom fewer than 'left' stand. -/
theorem give_rank (r : Nat → Nat) (n S left : Nat) (hS : 0 < S) (hr : ∀ i, i < n → r i < S) (hl : left * S ≤ sumF r n) (i : Nat) (hi : i < n) :
    giveC r n left i = decide (sumF (fun j => (bef r j i).toNat) n < left) := by
  obtain ⟨h1, h2, _, _⟩ := give_inv r n S left hS hr hl left (Nat.le_refl _)
  cases hc : giveC r n left i
  · have h3 : sumF (fun i => (giveC r n left i).toNat) n ≤ sumF (fun j => (bef r j i).toNat) n := sumF_le n fun j hj => by
      cases hcj : giveC r n left j
      · simp
      · rw [h2 j i hj hi hcj hc]; simp
    symm
    rw [decide_eq_false_iff_not]
    omega
  · have h3 : sumF (fun j => (bef r j i).toNat) n < sumF (fun i => (giveC r n left i).toNat) n := sumF_lt (i := i) (fun j hj => by
      cases hcj : giveC r n left j
      · have := h2 i j hi hj hc hcj
        rw [bef_asymm r i j this]; simp
      · cases bef r j i <;> simp) hi (by
        have : bef r i i = false := by unfold bef; simp
        simp [this, hc])
    symm
    rw [decide_eq_true_eq]
    omega
/-! What Share answers. -/
def wt (l : List Int) (i : Nat) : Nat := (l[i]?.getD 0).toNat
def shS (l : List Int) : Nat := sumF (wt l) l.length
def shQ (T : Nat) (l : List Int) (i : Nat) : Nat := T * wt l i / shS l
def shR (T : Nat) (l : List Int) (i : Nat) : Nat := T * wt l i % shS l
def shL (T : Nat) (l : List Int) (k : Nat) : Nat := T - sumF (shQ T l) k
def shC (T : Nat) (l : List Int) (k : Nat) : Nat → Bool := giveC (shR T l) l.length k
def shareN (T : Nat) (l : List Int) (i : Nat) : Nat := shQ T l i + (shC T l (shL T l l.length) i).toNat
def NonNeg (l : List Int) : Prop := ∀ v, v ∈ l → 0 ≤ v
theorem wt_lt (l : List Int) (i : Nat) (hl : I64 l) : wt l i < 9223372036854775808 := by
  unfold wt
  by_cases hi : i < l.length
  · have := hl (l[i]) (List.getElem_mem hi)
    simp [List.getElem?_eq_getElem hi]; omega
  · simp [List.getElem?_eq_none (by omega : l.length ≤ i)]
theorem shS_sum (l : List Int) (h : NonNeg l) : l.sum = (shS l : Int) := by
  have : ∀ (m : List Int), NonNeg m → m.sum = ((sumF (wt m) m.length : Nat) : Int) := by
    intro m
    induction m with
    | nil => intro _; rfl
    | cons v m ih =>
      intro hm
      have h1 := ih fun x hx => hm x (by simp [hx])
      have h2 := hm v (by simp)
      have h3 : ∀ n, sumF (wt (v :: m)) (n + 1) = v.toNat + sumF (wt m) n := by
        intro n
        induction n with
        | zero => simp [sumF, wt]
        | succ n ih2 => rw [sumF, ih2]; simp [sumF, wt]; omega
      rw [List.sum_cons, h1, List.length_cons, h3]
      omega
  exact this l h
theorem wt_le (l : List Int) (i : Nat) (hi : i < l.length) : wt l i ≤ shS l := sumF_one_le (f := wt l) hi
theorem shQ_le (T : Nat) (l : List Int) (i : Nat) (hi : i < l.length) : shQ T l i ≤ T := by
  unfold shQ
  refine Nat.div_le_of_le_mul ?_
  rw [Nat.mul_comm (shS l)]
  exact Nat.mul_le_mul_left T (wt_le l i hi)
theorem sh_split (T : Nat) (l : List Int) : shS l * sumF (shQ T l) l.length + sumF (shR T l) l.length = T * shS l := by
  rw [← sumF_mul, ← sumF_add, show T * shS l = T * sumF (wt l) l.length from rfl, ← sumF_mul]
  exact sumF_congr _ fun i _ => Nat.div_add_mod _ _
theorem shQ_sum (T : Nat) (l : List Int) (hS : 0 < shS l) : sumF (shQ T l) l.length ≤ T := by
  have h := sh_split T l
  have : shS l * sumF (shQ T l) l.length ≤ shS l * T := by rw [Nat.mul_comm (shS l) T]; omega
  exact Nat.le_of_mul_le_mul_left this hS
theorem shL_rest (T : Nat) (l : List Int) (hS : 0 < shS l) : shL T l l.length * shS l = sumF (shR T l) l.length := by
  have h := sh_split T l
  have h2 := shQ_sum T l hS
  unfold shL
  rw [Nat.sub_mul, Nat.mul_comm (sumF _ _)]
  omega
theorem shL_step (T : Nat) (l : List Int) (k : Nat) : shL T l k - shQ T l k = shL T l (k + 1) := by unfold shL; simp only [sumF]; omega
theorem shL_ge (T : Nat) (l : List Int) (k : Nat) (hk : k < l.length) (hS : 0 < shS l) : shQ T l k ≤ shL T l k := by
  have h := shQ_sum T l hS
  have : sumF (shQ T l) (k + 1) ≤ sumF (shQ T l) l.length := sumF_mono hk
  simp only [sumF] at this
  unfold shL
  omega
theorem shR_lt (T : Nat) (l : List Int) (i : Nat) (hS : 0 < shS l) : shR T l i < shS l := Nat.mod_lt _ hS
theorem sh_inv (T : Nat) (l : List Int) (hS : 0 < shS l) (k : Nat) (hk : k ≤ shL T l l.length) :
    sumF (fun i => (shC T l k i).toNat) l.length = k ∧ (∀ i j, i < l.length → j < l.length → shC T l k i = true → shC T l k j = false → bef (shR T l) i j = true) ∧ (∀ i, i < l.length → shC T l k i = true → 0 < shR T l i) ∧
      (k < shL T l l.length → shC T l k (amax (rz (shR T l) (shC T l k)) l.length) = false ∧ 0 < l.length) :=
  give_inv (shR T l) l.length (shS l) (shL T l l.length) hS (fun i _ => shR_lt T l i hS) (Nat.le_of_eq (shL_rest T l hS)) k hk
theorem sh_rank (T : Nat) (l : List Int) (hS : 0 < shS l) (i : Nat) (hi : i < l.length) : shC T l (shL T l l.length) i = decide (sumF (fun j => (bef (shR T l) j i).toNat) l.length < shL T l l.length) :=
  give_rank (shR T l) l.length (shS l) (shL T l l.length) hS (fun i _ => shR_lt T l i hS) (Nat.le_of_eq (shL_rest T l hS)) i hi
/-- The parts add up. -/
theorem share_sum (T : Nat) (l : List Int) (hS : 0 < shS l) : sumF (shareN T l) l.length = T := by
  obtain ⟨h1, _⟩ := sh_inv T l hS _ (Nat.le_refl _)
  have h2 := shQ_sum T l hS
  have : sumF (shareN T l) l.length = sumF (shQ T l) l.length + sumF (fun i => (shC T l (shL T l l.length) i).toNat) l.length := sumF_add _ _ _
  rw [this, h1]
  unfold shL
  omega
theorem share_zero (T : Nat) (l : List Int) (hS : 0 < shS l) (i : Nat) (hi : i < l.length) (h0 : wt l i = 0) : shareN T l i = 0 := by
  obtain ⟨_, _, h3, _⟩ := sh_inv T l hS _ (Nat.le_refl _)
  have hr : shR T l i = 0 := by simp [shR, h0]
  have hq : shQ T l i = 0 := by simp [shQ, h0]
  unfold shareN
  cases hc : shC T l (shL T l l.length) i
  · simp [hq]
  · have := h3 i hi hc; omega
theorem share_near (T : Nat) (l : List Int) (i : Nat) : shQ T l i ≤ shareN T l i ∧ shareN T l i ≤ shQ T l i + 1 := by
  unfold shareN
  cases shC T l (shL T l l.length) i <;> simp
theorem share_mono (T : Nat) (l : List Int) (hS : 0 < shS l) (i j : Nat) (hi : i < l.length) (hj : j < l.length) (h : wt l i < wt l j) : shareN T l i ≤ shareN T l j := by
  obtain ⟨_, h2, h3, _⟩ := sh_inv T l hS _ (Nat.le_refl _)
  have hm : T * wt l i ≤ T * wt l j := Nat.mul_le_mul_left T (by omega)
  have hq : shQ T l i ≤ shQ T l j := Nat.div_le_div_right hm
  have hni := share_near T l i
  have hnj := share_near T l j
  by_cases hqq : shQ T l i = shQ T l j
  · cases hci : shC T l (shL T l l.length) i
    · unfold shareN; rw [hci, hqq]; simp
    · cases hcj : shC T l (shL T l l.length) j
      · exfalso
        have hb := h2 i j hi hj hci hcj
        have hp := h3 i hi hci
        have e1 : shS l * shQ T l i + shR T l i = T * wt l i := Nat.div_add_mod _ _
        have e2 : shS l * shQ T l j + shR T l j = T * wt l j := Nat.div_add_mod _ _
        rw [← hqq] at e2
        unfold bef at hb
        simp only [Bool.or_eq_true, Bool.and_eq_true, decide_eq_true_eq] at hb
        have hT : 0 < T := by
          by_cases h0 : T = 0
          · subst h0; rw [Nat.zero_mul] at e1; omega
          · omega
        have := Nat.mul_lt_mul_of_pos_left h hT
        omega
      · unfold shareN; rw [hci, hcj, hqq]; exact Nat.le_refl _
  · omega
end Go.Proofs.YtjomgppbialeoaaGreat
