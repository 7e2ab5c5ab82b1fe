/-
  The plain law of a writer: what is kept of the fields that are put, and the first fault.
-/
import Derived.Test.YtipdilmlodakoaaGreatTlvP
namespace Go.Proofs.YtipdilmlodakoaaGreat
open Go.RowKit
set_option linter.unusedVariables false
set_option linter.unusedSimpArgs false
/-- A call of a writer, as the law's script has it. -/
structure Pt where
  k : Int
  tag : Int
  v : Int
  b : List UInt8
def toU (v : Int) : Nat := (v % 18446744073709551616).toNat
def zig (v : Int) : Nat := if v < 0 then (-2 * v - 1).toNat else (2 * v).toNat
theorem toU_lt (v : Int) : toU v < 18446744073709551616 := by unfold toU; omega
theorem zig_lt {v : Int} (h1 : -9223372036854775808 ≤ v) (h2 : v ≤ 9223372036854775807) : zig v < 18446744073709551616 := by unfold zig; split <;> omega
/-- One field more: kept, left out, or the first fault. -/
def addW (s : List Fld × Nat) (f : Fld) : List Fld × Nat :=
  if s.2 ≠ 0 then s else if fault f (lastT s.1) = 0 then (s.1 ++ [f], 0) else if fault f (lastT s.1) = 22 then s else (s.1, fault f (lastT s.1))
def Kept (s : List Fld × Nat) : Prop := FWf s.1 ∧ faults 0 s.1 = 0
theorem kept_nil : Kept ([], 0) := ⟨fun f hf => by simp at hf, rfl⟩
theorem addW_kept {s : List Fld × Nat} {f : Fld} (h : Kept s) (hf : f.wf) : Kept (addW s f) := by
  unfold addW
  split
  · exact h
  · split
    · rename_i h1
      refine ⟨fun g hg => ?_, by rw [faults_snoc h.2]; exact h1⟩
      simp at hg
      rcases hg with hg | rfl
      · exact h.1 g hg
      · exact hf
    · split
      · exact h
      · exact ⟨h.1, h.2⟩
theorem Kept.len {s : List Fld × Nat} (h : Kept s) : s.1.length ≤ 31 := by
  have := faults_bound s.1 h.1 h.2
  omega
theorem addW_bad {s : List Fld × Nat} (f : Fld) (h : s.2 ≠ 0) : addW s f = s := by unfold addW; rw [if_pos h]
theorem addW_ok {l : List Fld} {f : Fld} (h : fault f (lastT l) = 0) : addW (l, 0) f = (l ++ [f], 0) := by unfold addW; rw [if_neg (by simp), if_pos h]
theorem addW_zero {l : List Fld} {f : Fld} (h : fault f (lastT l) = 22) : addW (l, 0) f = (l, 0) := by unfold addW; rw [if_neg (by simp), if_neg (by simp [h]), if_pos h]
theorem addW_fault {l : List Fld} {f : Fld} (h : fault f (lastT l) ≠ 0) (h2 : fault f (lastT l) ≠ 22) : addW (l, 0) f = (l, fault f (lastT l)) := by unfold addW; rw [if_neg (by simp), if_neg h, if_neg h2]
theorem fault_small (f : Fld) (last : Int) : fault f last ≤ 24 := by
  unfold fault
  repeat' split
  all_goals omega
end Go.Proofs.YtipdilmlodakoaaGreat
