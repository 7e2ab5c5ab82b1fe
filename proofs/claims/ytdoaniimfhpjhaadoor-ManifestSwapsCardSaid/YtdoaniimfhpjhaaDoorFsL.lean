/-
  The head of chapter 10's laws; the walk of SimfsRights.
-/
import Derived.Test.YtdoaniimfhpjhaaDoorFsG
namespace Go.Proofs.YtdoaniimfhpjhaaDoor
open Go.RowKit
set_option linter.unusedVariables false
set_option linter.unusedSimpArgs false
open Go.Maps
/-- Bytes in a block of their own, behind a call on the disk. -/
theorem rd_turn {F : List Nat} {w w' : World} {base n c : Nat} {A : Option Addr} {l : List UInt8} (h : w.ownsRow base 5 1 (.slice A n c) n (u8s l)) (ht : Turn F w w') (hn : ∀ r, (Value.slice A n c).ownBlock = some r → r ∉ F) : Rd w' A n (u8s l) := Rd.of_own (ht.own h hn)
theorem own_new8 (w : World) (l : List UInt8) (n : Nat) (hn : n = l.length) (hm : n ≤ maxLen) (cs : Array Value) (hc : cs = (u8s l).toArray) : (w.alloc (.cells cs 5)).ownsRow w.heap.size 5 1 (.slice (some ⟨w.heap.size, 0, none⟩) n n) n (u8s l) := by
  subst hc hn
  have h := own_new (s := 1) w w.heap.size (u8s l).toArray 5 l.length (Nat.le_refl _) hm (by simp [u8s])
  simpa using h
def z8 : List UInt8 := [0, 0, 0, 0, 0, 0, 0, 0]
theorem c123 : (#[.int .u8 1, .int .u8 2, .int .u8 3] : Array Value) = (u8s [1, 2, 3]).toArray := rfl
theorem b8L : bpart z8 0 = (u8s z8).toArray := rfl
def nmA : ByteArray := ⟨#[97]⟩
def dA : Dk := ⟨[⟨nmA, [], 0⟩], 10, 0, 1, 0, 0, false⟩
def dB : Dk := ⟨[⟨nmA, [1, 2, 3], 0⟩], 10, 3, 2, 0, 0, false⟩
theorem rA : rightB nmA = true := by decide
theorem cA : createD (newD 10) nmA = (dA, 0) := by
  have h1 : openE (newD 10) nmA = 51 := by unfold openE; rw [rA]; rfl
  unfold createD
  rw [h1]
  rfl
theorem cB : appendD dA nmA [1, 2, 3] = (dB, 0) := by
  have h1 : openE dA nmA = 0 := by unfold openE; rw [rA]; rfl
  unfold appendD
  rw [h1]
  rfl
theorem cC : appendD dB nmA z8 = (dB, 54) := by
  have h1 : openE dB nmA = 0 := by unfold openE; rw [rA]; rfl
  unfold appendD
  rw [h1]
  rfl
theorem nA : DkNum (newD 10) ∧ DkNum dA ∧ DkNum dB := by unfold DkNum newD dA dB; simp
theorem kA : DkOk dA ∧ DkOk dB := by unfold DkOk dA dB; simp
def nmS : ByteArray := ⟨#[115, 101, 103, 45, 48, 48, 48, 48, 48, 49]⟩
theorem rS : rightB nmS = true := by decide
def dN (nm : ByteArray) : Dk := ⟨[⟨nm, [], 0⟩], 1, 0, 1, 0, 0, false⟩
theorem cN {nm : ByteArray} (h : rightB nm = true) : createD (newD 1) nm = (dN nm, 0) := by
  have h1 : openE (newD 1) nm = 51 := by unfold openE; rw [h]; rfl
  unfold createD
  rw [h1]
  rfl
theorem cN2 {nm : ByteArray} (h : rightB nm = true) : createD (dN nm) nm = (dN nm, 52) := by
  have h1 : openE (dN nm) nm = 0 := by
    unfold openE
    rw [h, if_neg (by simp [dN]), if_neg (by simp), if_pos (by simp [dN])]
  unfold createD
  rw [h1]
  rfl
theorem cNo {nm : ByteArray} (h : rightB nm = false) : createD (newD 1) nm = (newD 1, 50) := by
  have h1 : openE (newD 1) nm = 50 := by unfold openE; rw [h]; rfl
  unfold createD
  rw [h1]
  rfl
theorem nN (nm : ByteArray) : DkNum (newD 1) ∧ DkNum (dN nm) := by unfold DkNum newD dN; simp
end Go.Proofs.YtdoaniimfhpjhaaDoor
