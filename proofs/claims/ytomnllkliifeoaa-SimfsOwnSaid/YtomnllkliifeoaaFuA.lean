/-
  SimfsFuse, the plain law: a disk with a fuse beside one without.
-/
import Derived.Test.YtomnllkliifeoaaLsD
import Derived.Test.YtomnllkliifeoaaLsB
namespace Go.Proofs.Ytomnllkliifeoaa
open Go.RowKit
set_option linter.unusedVariables false
set_option linter.unusedSimpArgs false
def FuseRel (df dg : Dk) (n : Int) : Prop := dg.fuse = 0 ∧ dg.down = false ∧ dg.steps < n ∧ df = { dg with fuse := n - dg.steps }
def FuseOut (df : Dk) (o : Op10) (n : Int) (rf rg : Dk × List UInt8 × Nat × Nat) : Prop :=
  (rf.1.down = false ∧ rf.2.2.2 = rg.2.2.2 ∧ FuseRel rf.1 rg.1 n) ∨
  (rf.1.down = true ∧ rf.2.2.2 = 3 ∧ rg.2.2.2 = 0 ∧ rf.1.steps = n - 1 ∧ (o.k ≠ 1 → rf.1.files = df.files) ∧ (o.k = 1 → rf.1.files = rg.1.files))
theorem callD_down {d : Dk} (h : d.down = true) (o : Op10) (h0 : 0 ≤ o.k) (h7 : o.k ≤ 7) : callD d o = (d, [], 0, 3) := by
  have ho : ∀ nm, openE d nm = 3 := fun nm => by unfold openE; rw [h]; rfl
  unfold callD
  by_cases h0 : o.k = 0
  · rw [if_pos h0]; simp [createD, ho]
  by_cases h1 : o.k = 1
  · rw [if_neg h0, if_pos h1]; simp [appendD, ho]
  by_cases h2 : o.k = 2
  · rw [if_neg h0, if_neg h1, if_pos h2]; simp [syncD, ho]
  by_cases h3 : o.k = 3
  · rw [if_neg h0, if_neg h1, if_neg h2, if_pos h3]; simp [renameD, ho]
  by_cases h4 : o.k = 4
  · rw [if_neg h0, if_neg h1, if_neg h2, if_neg h3, if_pos h4]; simp [removeD, ho]
  by_cases h5 : o.k = 5
  · rw [if_neg h0, if_neg h1, if_neg h2, if_neg h3, if_neg h4, if_pos h5]; simp [cutD, ho]
  by_cases h6 : o.k = 6
  · rw [if_neg h0, if_neg h1, if_neg h2, if_neg h3, if_neg h4, if_neg h5, if_pos h6]; simp [readD, ho]
  rw [if_neg h0, if_neg h1, if_neg h2, if_neg h3, if_neg h4, if_neg h5, if_neg h6, if_pos (by omega)]
  simp [sizeD, ho]
theorem fuse_law {dg : Dk} {n F : Int} (hg0 : dg.fuse = 0) (hgd : dg.down = false) (hF : F = n - dg.steps) (hF1 : 1 ≤ F) (o : Op10) (h0 : 0 ≤ o.k) (h7 : o.k ≤ 7) : FuseOut { dg with fuse := F } o n (callD { dg with fuse := F } o) (callD dg o) := by
  have stG := st_free hg0
  have ho : ∀ nm, openE { dg with fuse := F } nm = openE dg nm := fun _ => rfl
  have hl : ∀ nm, lenF { dg with fuse := F } nm = lenF dg nm := fun _ => rfl
  have hr : ∀ a b, renF { dg with fuse := F } a b = renF dg a b := fun _ _ => rfl
  have hd : ∀ a b, dataD { dg with fuse := F } a b = dataD dg a b := fun _ _ => rfl
  have hz : ∀ a, sizeD { dg with fuse := F } a = sizeD dg a := fun _ => rfl
  have hg : ∀ a, getF { dg with fuse := F } a = getF dg a := fun _ => rfl
  have same : ∀ (e : Nat) (l l2 : List UInt8) (m m2 : Nat), FuseOut { dg with fuse := F } o n ({ dg with fuse := F }, l, m, e) (dg, l2, m2, e) := fun e l l2 m m2 => .inl ⟨hgd, rfl, hg0, hgd, (by show dg.steps < n; omega), by rw [hF]⟩
  rcases (show F = 1 ∨ 2 ≤ F by omega) with hf | hf
  · have stF := st_one (d := { dg with fuse := F }) hf
    have out : ∀ (fl : List Fil) (u : Int) (l l2 : List UInt8) (m m2 : Nat), o.k ≠ 1 → FuseOut { dg with fuse := F } o n ({ dg with fuse := 0, down := true }, l, m, 3) ({ dg with steps := dg.steps + 1, files := fl, used := u }, l2, m2, 0) := fun fl u l l2 m m2 hk => .inr ⟨rfl, rfl, rfl, by dsimp only; omega, fun _ => rfl, fun h => absurd h hk⟩
    unfold callD
    by_cases k0 : o.k = 0
    · rw [if_pos k0, if_pos k0]
      unfold createD
      simp only [ho, stG, stF]
      repeat' split
      all_goals first | exact same _ _ _ _ _ | exact out _ _ _ _ _ _ (by omega) | (exfalso; simp_all; done)
    by_cases k1 : o.k = 1
    · rw [if_neg k0, if_pos k1, if_neg k0, if_pos k1]
      unfold appendD
      simp only [ho, hd, stG, stF]
      repeat' split
      all_goals first | exact same _ _ _ _ _ | exact .inr ⟨rfl, rfl, rfl, by dsimp only; omega, fun h => absurd k1 h, fun _ => rfl⟩ | (exfalso; simp_all; done)
    by_cases k2 : o.k = 2
    · rw [if_neg k0, if_neg k1, if_pos k2, if_neg k0, if_neg k1, if_pos k2]
      unfold syncD
      simp only [ho, hd, stG, stF]
      repeat' split
      all_goals first | exact same _ _ _ _ _ | exact out _ _ _ _ _ _ (by omega) | (exfalso; simp_all; done)
    by_cases k3 : o.k = 3
    · rw [if_neg k0, if_neg k1, if_neg k2, if_pos k3, if_neg k0, if_neg k1, if_neg k2, if_pos k3]
      unfold renameD
      simp only [ho, hl, hr, stG, stF]
      repeat' split
      all_goals first | exact same _ _ _ _ _ | exact out _ _ _ _ _ _ (by omega) | (exfalso; simp_all; done)
    by_cases k4 : o.k = 4
    · rw [if_neg k0, if_neg k1, if_neg k2, if_neg k3, if_pos k4, if_neg k0, if_neg k1, if_neg k2, if_neg k3, if_pos k4]
      unfold removeD
      simp only [ho, hl, stG, stF]
      repeat' split
      all_goals first | exact same _ _ _ _ _ | exact out _ _ _ _ _ _ (by omega) | (exfalso; simp_all; done)
    by_cases k5 : o.k = 5
    · rw [if_neg k0, if_neg k1, if_neg k2, if_neg k3, if_neg k4, if_pos k5, if_neg k0, if_neg k1, if_neg k2, if_neg k3, if_neg k4, if_pos k5]
      unfold cutD
      simp only [ho, hl, hd, stG, stF]
      repeat' split
      all_goals first | exact same _ _ _ _ _ | exact out _ _ _ _ _ _ (by omega) | (exfalso; simp_all; done)
    by_cases k6 : o.k = 6
    · rw [if_neg k0, if_neg k1, if_neg k2, if_neg k3, if_neg k4, if_neg k5, if_pos k6, if_neg k0, if_neg k1, if_neg k2, if_neg k3, if_neg k4, if_neg k5, if_pos k6]
      unfold readD
      simp only [ho, hg]
      repeat' split
      all_goals first | exact same _ _ _ _ _ | exact .inl ⟨hgd, rfl, hg0, hgd, by dsimp only; omega, by rw [hF]⟩ | (exfalso; simp_all; done)
    rw [if_neg k0, if_neg k1, if_neg k2, if_neg k3, if_neg k4, if_neg k5, if_neg k6, if_pos (by omega), if_neg k0, if_neg k1, if_neg k2, if_neg k3, if_neg k4, if_neg k5, if_neg k6, if_pos (by omega), hz]
    exact same _ _ _ _ _
  · have stF := st_more (d := { dg with fuse := F }) hf
    have ok : ∀ (fl : List Fil) (u : Int) (l l2 : List UInt8) (m m2 : Nat), FuseOut { dg with fuse := F } o n ({ dg with fuse := F - 1, steps := dg.steps + 1, files := fl, used := u }, l, m, 0) ({ dg with steps := dg.steps + 1, files := fl, used := u }, l2, m2, 0) := fun fl u l l2 m m2 => .inl ⟨hgd, rfl, hg0, hgd, by dsimp only; omega, by dsimp only; rw [show F - 1 = n - (dg.steps + 1) by omega]⟩
    unfold callD
    by_cases k0 : o.k = 0
    · rw [if_pos k0, if_pos k0]
      unfold createD
      simp only [ho, stG, stF]
      repeat' split
      all_goals first | exact same _ _ _ _ _ | exact ok _ _ _ _ _ _ | (exfalso; simp_all; done)
    by_cases k1 : o.k = 1
    · rw [if_neg k0, if_pos k1, if_neg k0, if_pos k1]
      unfold appendD
      simp only [ho, hd, stG, stF]
      repeat' split
      all_goals first | exact same _ _ _ _ _ | exact ok _ _ _ _ _ _ | (exfalso; simp_all; done)
    by_cases k2 : o.k = 2
    · rw [if_neg k0, if_neg k1, if_pos k2, if_neg k0, if_neg k1, if_pos k2]
      unfold syncD
      simp only [ho, hd, stG, stF]
      repeat' split
      all_goals first | exact same _ _ _ _ _ | exact ok _ _ _ _ _ _ | (exfalso; simp_all; done)
    by_cases k3 : o.k = 3
    · rw [if_neg k0, if_neg k1, if_neg k2, if_pos k3, if_neg k0, if_neg k1, if_neg k2, if_pos k3]
      unfold renameD
      simp only [ho, hl, hr, stG, stF]
      repeat' split
      all_goals first | exact same _ _ _ _ _ | exact ok _ _ _ _ _ _ | (exfalso; simp_all; done)
    by_cases k4 : o.k = 4
    · rw [if_neg k0, if_neg k1, if_neg k2, if_neg k3, if_pos k4, if_neg k0, if_neg k1, if_neg k2, if_neg k3, if_pos k4]
      unfold removeD
      simp only [ho, hl, stG, stF]
      repeat' split
      all_goals first | exact same _ _ _ _ _ | exact ok _ _ _ _ _ _ | (exfalso; simp_all; done)
    by_cases k5 : o.k = 5
    · rw [if_neg k0, if_neg k1, if_neg k2, if_neg k3, if_neg k4, if_pos k5, if_neg k0, if_neg k1, if_neg k2, if_neg k3, if_neg k4, if_pos k5]
      unfold cutD
      simp only [ho, hl, hd, stG, stF]
      repeat' split
      all_goals first | exact same _ _ _ _ _ | exact ok _ _ _ _ _ _ | (exfalso; simp_all; done)
    by_cases k6 : o.k = 6
    · rw [if_neg k0, if_neg k1, if_neg k2, if_neg k3, if_neg k4, if_neg k5, if_pos k6, if_neg k0, if_neg k1, if_neg k2, if_neg k3, if_neg k4, if_neg k5, if_pos k6]
      unfold readD
      simp only [ho, hg]
      repeat' split
      all_goals first | exact same _ _ _ _ _ | exact .inl ⟨hgd, rfl, hg0, hgd, by dsimp only; omega, by rw [hF]⟩ | (exfalso; simp_all; done)
    rw [if_neg k0, if_neg k1, if_neg k2, if_neg k3, if_neg k4, if_neg k5, if_neg k6, if_pos (by omega), if_neg k0, if_neg k1, if_neg k2, if_neg k3, if_neg k4, if_neg k5, if_neg k6, if_pos (by omega), hz]
    exact same _ _ _ _ _
end Go.Proofs.Ytomnllkliifeoaa
