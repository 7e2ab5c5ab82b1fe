/-
  The plain law of manifests: valid ones, their bytes, there and back; the lenient reading that is held against the bytes is the strict one. No program in sight.
-/
import Derived.Test.YtjomgppbialeoaaDoorFrmP
namespace Go.Proofs.YtjomgppbialeoaaDoor
open Go.RowKit
set_option linter.unusedVariables false
set_option linter.unusedSimpArgs false
structure Sg where
  num : Int
  first : Int
  count : Int
  foot : Int
structure Mf where
  gen : Int
  next : Int
  floor : Int
  snap : Int
  snapSeq : Int
  segs : List Sg
def noMf : Mf := ⟨0, 0, 0, 0, 0, []⟩
def linkB (next first num : Int) (g : Sg) : Bool := decide (g.first = first) && decide (num < g.num) && decide (g.num < next)
def chainB (next : Int) : Int → Int → List Sg → Bool
  | _, _, [] => false
  | first, num, g :: r => linkB next first num g && (if r.isEmpty then decide (g.count = 0) && decide (g.foot = 0) && decide (first ≤ 1099511627777)
      else (decide (1 ≤ g.count) && decide (g.count ≤ 512)) && (decide (1 ≤ g.foot) && decide (g.foot ≤ 1099511627776)) && chainB next (first + g.count) g.num r)
def manB (m : Mf) : Bool :=
  (decide (1 ≤ m.gen) && decide (m.gen ≤ 1099511627776)) && (decide (2 ≤ m.next) && decide (m.next ≤ 1000000)) && (decide (0 ≤ m.snapSeq) && decide (m.snapSeq ≤ 1099511627776)) && (decide (0 ≤ m.floor) && decide (m.floor ≤ m.snapSeq)) &&
    (decide (0 ≤ m.snap) && decide (m.snap ≤ m.next - 1)) && (decide (m.snap = 0) == decide (m.snapSeq = 0)) && decide (m.segs.length ≤ 256) && chainB m.next (m.floor + 1) 0 m.segs
def segU (g : Sg) : List Nat := [g.num.toNat, g.first.toNat, g.count.toNat, g.foot.toNat]
def manU (m : Mf) : List Nat := [m.next.toNat, m.floor.toNat, m.snap.toNat, m.snapSeq.toNat] ++ m.segs.flatMap segU
/-- The bytes of a manifest, and the fault. -/
def manE (m : Mf) : List UInt8 × Nat := if manB m = true then (fenc 4 m.gen.toNat (vsenc (manU m)), 0) else ([], 80)
def segsOf : List Nat → List Sg
  | a :: b :: c :: d :: r => ⟨a, b, c, d⟩ :: segsOf r
  | _ => []
def manOf (gen : Nat) (us : List Nat) : Mf := ⟨gen, us.getD 0 0, us.getD 1 0, us.getD 2 0, us.getD 3 0, segsOf (us.drop 4)⟩
/-- What Decode answers. -/
def manD (b : List UInt8) : Mf × Nat :=
  if (fdec b).2.2 ≠ 0 ∨ (fdec b).1.1 ≠ 4 ∨ (fdec b).2.1 ≠ b.length then (noMf, 80)
  else if (vsdec (fdec b).1.2.2 1028).2.2 ≠ 0 ∨ (vsdec (fdec b).1.2.2 1028).2.1 ≠ (fdec b).1.2.2.length ∨ (vsdec (fdec b).1.2.2 1028).1.length < 8 ∨ (vsdec (fdec b).1.2.2 1028).1.length % 4 ≠ 0 ∨ ∃ u ∈ (vsdec (fdec b).1.2.2 1028).1, 2199023255552 < u then (noMf, 80)
  else if manB (manOf (fdec b).1.2.1 (vsdec (fdec b).1.2.2 1028).1) = true then (manOf (fdec b).1.2.1 (vsdec (fdec b).1.2.2 1028).1, 0) else (noMf, 80)
theorem and_t' {a b : Bool} : (a && b) = true ↔ a = true ∧ b = true := by simp
structure ManOk (m : Mf) : Prop where
  gen : 1 ≤ m.gen ∧ m.gen ≤ 1099511627776
  next : 2 ≤ m.next ∧ m.next ≤ 1000000
  snapSeq : 0 ≤ m.snapSeq ∧ m.snapSeq ≤ 1099511627776
  floor : 0 ≤ m.floor ∧ m.floor ≤ m.snapSeq
  snap : 0 ≤ m.snap ∧ m.snap ≤ m.next - 1
  len : m.segs.length ≤ 256
  chain : chainB m.next (m.floor + 1) 0 m.segs = true
theorem man_ok {m : Mf} (h : manB m = true) : ManOk m := by
  simp only [manB, and_t', decide_eq_true_eq] at h
  obtain ⟨⟨⟨⟨⟨⟨⟨h1, h2⟩, h3⟩, h4⟩, h5⟩, h6⟩, h7⟩, h8⟩ := h
  exact ⟨h1, h2, h3, h4, h5, h7, h8⟩
/-- Each segment's numbers are small, and none is below 0. -/
theorem chain_small {next first num : Int} {l : List Sg} (h : chainB next first num l = true) (hn : 0 ≤ num) (hx : next ≤ 1000000) (hf0 : 0 ≤ first) (hf : first + 512 * l.length ≤ 1099511759872) :
    l ≠ [] ∧ ∀ g ∈ l, (0 ≤ g.num ∧ g.num ≤ 1000000) ∧ (0 ≤ g.first ∧ g.first ≤ 1099511759872) ∧ (0 ≤ g.count ∧ g.count ≤ 512) ∧ (0 ≤ g.foot ∧ g.foot ≤ 1099511627776) := by
  induction l generalizing first num with
  | nil => cases h
  | cons g r ih =>
    simp only [chainB, linkB, and_t', decide_eq_true_eq] at h
    obtain ⟨⟨⟨h1, h2⟩, h3⟩, h4⟩ := h
    refine ⟨by simp, ?_⟩
    rw [List.length_cons] at hf
    cases r with
    | nil =>
      simp only [List.isEmpty_nil, if_true, and_t', decide_eq_true_eq] at h4
      intro x hx'
      rw [List.mem_singleton.1 hx']
      exact ⟨by omega, by omega, by omega, by omega⟩
    | cons g2 r2 =>
      simp only [List.isEmpty_cons, Bool.false_eq_true, if_false, and_t', decide_eq_true_eq] at h4
      obtain ⟨⟨⟨a1, a2⟩, a3, a4⟩, a5⟩ := h4
      intro x hx'
      rcases List.mem_cons.1 hx' with rfl | hx'
      · exact ⟨by omega, by omega, by omega, by omega⟩
      · exact (ih a5 (by omega) (by omega) (by push_cast at hf ⊢; omega)).2 x hx'
theorem man_segs {m : Mf} (h : ManOk m) : m.segs ≠ [] ∧ ∀ g ∈ m.segs, (0 ≤ g.num ∧ g.num ≤ 1000000) ∧ (0 ≤ g.first ∧ g.first ≤ 1099511759872) ∧ (0 ≤ g.count ∧ g.count ≤ 512) ∧ (0 ≤ g.foot ∧ g.foot ≤ 1099511627776) :=
  chain_small h.chain (by omega) h.next.2 (by have := h.floor; omega) (by have := h.floor; have := h.snapSeq; have := h.len; omega)
theorem segU_len (l : List Sg) : (l.flatMap segU).length = 4 * l.length := by
  induction l with
  | nil => rfl
  | cons g r ih => rw [List.flatMap_cons, List.length_append, ih, List.length_cons]; show 4 + _ = _; omega
theorem manU_len (m : Mf) : (manU m).length = 4 + 4 * m.segs.length := by
  unfold manU
  rw [List.length_append, segU_len]; rfl
theorem manU_small {m : Mf} (h : ManOk m) : ∀ u ∈ manU m, u ≤ 2199023255552 := by
  have h1 := h.next; have h2 := h.floor; have h3 := h.snap; have h4 := h.snapSeq
  intro u hu
  unfold manU at hu
  rcases List.mem_append.1 hu with hu | hu
  · simp only [List.mem_cons, List.not_mem_nil, or_false] at hu
    rcases hu with rfl | rfl | rfl | rfl <;> omega
  · obtain ⟨g, hg, hu⟩ := List.mem_flatMap.1 hu
    obtain ⟨a1, a2, a3, a4⟩ := (man_segs h).2 g hg
    simp only [segU, List.mem_cons, List.not_mem_nil, or_false] at hu
    rcases hu with rfl | rfl | rfl | rfl <;> omega
theorem segsOf_U {l : List Sg} (h : ∀ g ∈ l, 0 ≤ g.num ∧ 0 ≤ g.first ∧ 0 ≤ g.count ∧ 0 ≤ g.foot) : segsOf (l.flatMap segU) = l := by
  induction l with
  | nil => rfl
  | cons g r ih =>
    obtain ⟨a, b, c, d⟩ := g
    obtain ⟨h1, h2, h3, h4⟩ := h _ (List.mem_cons_self ..)
    dsimp only at h1 h2 h3 h4
    show (⟨((a.toNat : Nat) : Int), ((b.toNat : Nat) : Int), ((c.toNat : Nat) : Int), ((d.toNat : Nat) : Int)⟩ : Sg) :: segsOf (r.flatMap segU) = _
    rw [ih fun g hg => h g (List.mem_cons_of_mem _ hg), Int.toNat_of_nonneg h1, Int.toNat_of_nonneg h2, Int.toNat_of_nonneg h3, Int.toNat_of_nonneg h4]
theorem manOf_U {m : Mf} (h : ManOk m) : manOf m.gen.toNat (manU m) = m := by
  have h0 := h.gen; have h1 := h.next; have h2 := h.floor; have h3 := h.snap; have h4 := h.snapSeq
  have hs := segsOf_U (l := m.segs) fun g hg => by obtain ⟨a1, a2, a3, a4⟩ := (man_segs h).2 g hg; exact ⟨a1.1, a2.1, a3.1, a4.1⟩
  obtain ⟨gen, next, floor, snap, snapSeq, segs⟩ := m
  dsimp only at h0 h1 h2 h3 h4 hs
  show (⟨((gen.toNat : Nat) : Int), ((next.toNat : Nat) : Int), ((floor.toNat : Nat) : Int), ((snap.toNat : Nat) : Int), ((snapSeq.toNat : Nat) : Int), segsOf (segs.flatMap segU)⟩ : Mf) = _
  rw [hs, Int.toNat_of_nonneg (by omega), Int.toNat_of_nonneg (by omega), Int.toNat_of_nonneg (by omega), Int.toNat_of_nonneg (by omega), Int.toNat_of_nonneg (by omega)]
theorem segsOf_inv (us : List Nat) (h : us.length % 4 = 0) : (segsOf us).flatMap segU = us ∧ 4 * (segsOf us).length = us.length := by
  match us with
  | [] => exact ⟨rfl, rfl⟩
  | [_] => simp at h
  | [_, _] => simp at h
  | [_, _, _] => simp at h
  | a :: b :: c :: d :: r =>
    have ih := segsOf_inv r (by simp only [List.length_cons] at h; omega)
    constructor
    · show [a, b, c, d] ++ (segsOf r).flatMap segU = _
      rw [ih.1]; rfl
    · show 4 * ((segsOf r).length + 1) = r.length + 1 + 1 + 1 + 1
      omega
theorem manU_of (gen : Nat) (us : List Nat) (h4 : us.length % 4 = 0) (h8 : 8 ≤ us.length) : manU (manOf gen us) = us := by
  match us, h8 with
  | a :: b :: c :: d :: r, _ =>
    unfold manU manOf
    show [((a : Nat) : Int).toNat, ((b : Nat) : Int).toNat, ((c : Nat) : Int).toNat, ((d : Nat) : Int).toNat] ++ (segsOf r).flatMap segU = _
    rw [(segsOf_inv r (by simp only [List.length_cons] at h4; omega)).1]
    rfl
theorem venc_six {u : Nat} (h : u ≤ 2199023255552) : (venc u).length ≤ 6 := venc_len 5 u (by simp; omega)
theorem vencs_len {us : List Nat} (h : ∀ u ∈ us, u ≤ 2199023255552) : (us.flatMap venc).length ≤ 6 * us.length := by
  induction us with
  | nil => simp
  | cons u r ih =>
    have h1 := venc_six (h u (List.mem_cons_self ..))
    have h2 := ih fun v hv => h v (List.mem_cons_of_mem _ hv)
    rw [List.flatMap_cons, List.length_append, List.length_cons]; omega
theorem man_body {m : Mf} (h : ManOk m) : (vsenc (manU m)).length ≤ 6180 := by
  have h1 := vencs_len (manU_small h)
  have h2 := manU_len m
  have h3 := h.len
  have h4 := venc_six (u := (manU m).length) (by omega)
  unfold vsenc
  rw [List.length_append]; omega
theorem manE_ok {m : Mf} (h : manB m = true) : manE m = (fenc 4 m.gen.toNat (vsenc (manU m)), 0) := by unfold manE; rw [if_pos h]
theorem manE_bad {m : Mf} (h : manB m = false) : manE m = ([], 80) := by unfold manE; rw [if_neg (by rw [h]; simp)]
theorem manE_len (m : Mf) : (manE m).1.length ≤ 6200 := by
  unfold manE
  split
  · rename_i h
    have := man_body (man_ok h)
    show (fenc 4 m.gen.toNat (vsenc (manU m))).length ≤ 6200
    rw [fenc_len]; omega
  · simp
theorem man_dec {m : Mf} (h : manB m = true) : fdec (manE m).1 = ((4, m.gen.toNat, vsenc (manU m)), (manE m).1.length, 0) ∧ vsdec (vsenc (manU m)) 1028 = (manU m, (vsenc (manU m)).length, 0) := by
  have hk := man_ok h
  have hg := hk.gen
  have hl := hk.len
  have hu := manU_len m
  constructor
  · rw [manE_ok h]
    dsimp only
    have := fdec_enc (k := 4) (s := m.gen.toNat) (body := vsenc (manU m)) [] (by omega) (by omega) (by omega) (by have := man_body hk; omega)
    rw [List.append_nil] at this
    rw [this, fenc_len]
  · have := vsdec_enc (manU m) [] (most := 1028) (by omega) (by omega) (fun u hv => by have := manU_small hk u hv; omega)
    rwa [List.append_nil] at this
theorem manD_enc {m : Mf} (h : manB m = true) : manD (manE m).1 = (m, 0) := by
  obtain ⟨h1, h2⟩ := man_dec h
  have hk := man_ok h
  have hu := manU_len m
  have hne := (man_segs hk).1
  have hsl : 1 ≤ m.segs.length := by cases hc : m.segs with
    | nil => exact absurd hc hne
    | cons a r => simp
  unfold manD
  rw [h1]
  dsimp only
  rw [if_neg (by simp), h2]
  dsimp only
  rw [if_neg (by
    rintro (hc | hc | hc | hc | ⟨u, hc, hc2⟩)
    · exact hc rfl
    · exact hc rfl
    · omega
    · omega
    · have := manU_small hk u hc; omega), manOf_U hk, if_pos h]
theorem manD_inv {b : List UInt8} {m : Mf} (h : manD b = (m, 0)) : manB m = true ∧ b = (manE m).1 := by
  unfold manD at h
  split at h
  · injection h with _ h; cases h
  rename_i h1
  split at h
  · injection h with _ h; cases h
  rename_i h2
  split at h
  · rename_i h3
    injection h with h _
    subst h
    refine ⟨h3, ?_⟩
    obtain ⟨⟨⟨k, s, body⟩, n, e⟩, hd⟩ : ∃ x, x = fdec b := ⟨_, rfl⟩
    rw [← hd] at h1 h2 h3 ⊢
    dsimp only at h1 h2 h3 ⊢
    obtain ⟨⟨us, q, e2⟩, hv⟩ : ∃ x, x = vsdec body 1028 := ⟨_, rfl⟩
    rw [← hv] at h2 h3 ⊢
    dsimp only at h2 h3 ⊢
    have a1 : e = 0 := Classical.byContradiction fun hc => h1 (.inl hc)
    have a2 : k = 4 := Classical.byContradiction fun hc => h1 (.inr (.inl hc))
    have a3 : n = b.length := Classical.byContradiction fun hc => h1 (.inr (.inr hc))
    have b1 : e2 = 0 := Classical.byContradiction fun hc => h2 (.inl hc)
    have b2 : q = body.length := Classical.byContradiction fun hc => h2 (.inr (.inl hc))
    have b3 : 8 ≤ us.length := Classical.byContradiction fun hc => h2 (.inr (.inr (.inl (by omega))))
    have b4 : us.length % 4 = 0 := Classical.byContradiction fun hc => h2 (.inr (.inr (.inr (.inl hc))))
    subst a1 a2 b1
    obtain ⟨r, c1, c2, _, _, c5, _⟩ := fdec_inv hd.symm
    obtain ⟨r2, d1, d2, _, _⟩ := vsdec_inv hv.symm
    have hr2 : r2 = [] := by
      have := congrArg List.length d1
      rw [List.length_append] at this
      exact List.eq_nil_of_length_eq_zero (by omega)
    have hr : r = [] := by
      have := congrArg List.length c1
      rw [List.length_append, fenc_len] at this
      exact List.eq_nil_of_length_eq_zero (by omega)
    rw [manE_ok h3, manU_of _ _ b4 b3]
    show b = fenc 4 ((s : Nat) : Int).toNat (vsenc us)
    rw [hr, List.append_nil] at c1
    rw [hr2, List.append_nil] at d1
    rw [c1, ← d1]; rfl
  · injection h with _ h; cases h
theorem manD_or (b : List UInt8) : (manD b).2 = 0 ∨ manD b = (noMf, 80) := by
  unfold manD
  split
  · exact .inr rfl
  split
  · exact .inr rfl
  split
  · exact .inl rfl
  · exact .inr rfl
/-- The reference's Decode: read leniently, and held against the bytes of what was read. -/
def manR (b : List UInt8) : Mf × Nat :=
  if (fdec b).2.2 ≠ 0 ∨ (fdec b).2.1 ≠ b.length then (noMf, 80)
  else if (vsdec (fdec b).1.2.2 1028).2.2 ≠ 0 ∨ (vsdec (fdec b).1.2.2 1028).1.length < 4 ∨ ∃ u ∈ (vsdec (fdec b).1.2.2 1028).1, 2199023255552 < u then (noMf, 80)
  else if (manE (manOf (fdec b).1.2.1 (vsdec (fdec b).1.2.2 1028).1)).2 ≠ 0 ∨ (manE (manOf (fdec b).1.2.1 (vsdec (fdec b).1.2.2 1028).1)).1 ≠ b then (noMf, 80)
  else (manOf (fdec b).1.2.1 (vsdec (fdec b).1.2.2 1028).1, 0)
theorem manR_eq (b : List UInt8) : manR b = manD b := by
  rcases manD_or b with h | h
  · obtain ⟨m, hm⟩ : ∃ m, manD b = (m, 0) := ⟨_, by rw [← h]⟩
    obtain ⟨h1, h2⟩ := manD_inv hm
    rw [hm]
    have hk := man_ok h1
    obtain ⟨g1, g2⟩ := man_dec h1
    have hu := manU_len m
    subst h2
    unfold manR
    rw [g1]
    dsimp only
    rw [if_neg (by simp), g2]
    dsimp only
    rw [if_neg (by
      rintro (hc | hc | ⟨u, hc, hc2⟩)
      · exact hc rfl
      · omega
      · have := manU_small hk u hc; omega), manOf_U hk, if_neg (by rw [manE_ok h1]; simp)]
  · rw [h]
    unfold manR
    split
    · rfl
    split
    · rfl
    split
    · rfl
    · rename_i h3
      exfalso
      obtain ⟨M, hM⟩ : ∃ M, M = manOf (fdec b).1.2.1 (vsdec (fdec b).1.2.2 1028).1 := ⟨_, rfl⟩
      rw [← hM] at h3
      have h5 : (manE M).2 = 0 := Classical.byContradiction fun hc => h3 (.inl hc)
      have h6 : (manE M).1 = b := Classical.byContradiction fun hc => h3 (.inr hc)
      have h7 : manB M = true := by
        cases hb : manB M
        · rw [manE_bad hb] at h5; cases h5
        · rfl
      have := manD_enc h7
      rw [h6, h] at this
      injection this with _ hc
      cases hc
end Go.Proofs.YtjomgppbialeoaaDoor
