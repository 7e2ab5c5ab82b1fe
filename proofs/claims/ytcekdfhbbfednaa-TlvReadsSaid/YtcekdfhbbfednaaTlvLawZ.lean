/-
  Lemmas of the laws: a literal field; Same at equal bytes.
-/
import Derived.Test.YtcekdfhbbfednaaFsC
namespace Go.Proofs.Ytcekdfhbbfednaa
open Go.RowKit
set_option linter.unusedVariables false
set_option linter.unusedSimpArgs false
theorem rd_lit1 (w : World) (g : Nat) (hg : w.heap.size = g) : FsRd (w.alloc (.cells #[.int .i64 1, .bool false, .int .u64 5, .slice none 0 0] 29)) (some ⟨g, 0, none⟩) 1 [⟨1, false, 5, []⟩] := by
  subst hg
  have h := rd_new w #[.int .i64 1, .bool false, .int .u64 5, .slice none 0 0] 29
  refine ⟨[(⟨1, false, 5, []⟩, none, 0)], rfl, ⟨rfl, fun _ => h.2 (by simp)⟩, fun g hg => ?_⟩
  simp only [List.mem_singleton] at hg
  subst hg
  exact Rd.nil_ _ _
theorem lit1_wf : FWf [⟨1, false, 5, []⟩] := by
  intro f hf
  simp only [List.mem_singleton] at hf
  subst hf
  exact ⟨by dsimp only; omega, by dsimp only; omega, by dsimp only; omega⟩
theorem lit1_enc : encE [⟨1, false, 5, []⟩] = 0 ∧ encR [⟨1, false, 5, []⟩] = [2, 5] := by
  have e : encB [⟨1, false, 5, []⟩] = [2, 5] := by simp [encB, one, venc_lo]
  have h : encE [⟨1, false, 5, []⟩] = 0 := by unfold encE; rw [e]; decide
  exact ⟨h, by unfold encR; rw [if_pos h, e]⟩
theorem same_yes (A B : Option Addr) (n c n2 c2 : Nat) (l : List UInt8) (w : World) (h1 : Rd w A n (u8s l)) (h2 : Rd w B n2 (u8s l)) (hn : n ≤ maxLen) :
    Calls Try.prog 15 #[.slice A n c, .slice B n2 c2] w fun e w' => e = .returned (.bool true) ∧ Ext w w' :=
  (same_any A B n c n2 c2 l l w h1 h2 hn).mono fun e w' ⟨he, hx⟩ => ⟨by rw [he]; simp, hx⟩
theorem encR_max (fs : List Fld) : (encR fs).length ≤ 1024 := by
  unfold encR
  by_cases h : encE fs = 0
  · rw [if_pos h]
    unfold encE at h
    by_cases h1 : faults 0 fs ≠ 0
    · rw [if_pos h1] at h; exact absurd h h1
    · rw [if_neg h1] at h
      by_cases h2 : 1024 < (encB fs).length
      · rw [if_pos h2] at h; cases h
      · omega
  · rw [if_neg h]; simp
end Go.Proofs.Ytcekdfhbbfednaa
