/-
  The head of chapter 10's laws; the walk of SimfsRights.
-/
import Derived.Test.YtdoaniimfhpjhaaFsG
namespace Go.Proofs.Ytdoaniimfhpjhaa
open Go.RowKit
set_option linter.unusedVariables false
set_option linter.unusedSimpArgs false
open Go.Maps
set_option maxRecDepth 100000 in
set_option maxHeartbeats 2000000 in
theorem used_any (W w : World) (g b : Nat) (d : Dk) (D : DataW Value) (hs : List HF) (h : FsX W w g d b D hs) :
    Calls Try.prog 19 #[ptrV g] w fun e w' => e = .returned (.int .i64 d.used) ∧ Ext w w' := by
  unfold ptrV
  have k2 : w.cell? ⟨g, 2, none⟩ = some (.int .i64 d.used) := h.blk.cell 2
  clear h
  go_enter Try.func19, Try.ntmps19
  go_wp2_with fail
  go_ret
  exact ⟨rfl, (by repeat (first | with_reducible exact Below.refl _ _ | with_reducible assumption | with_reducible refine ExtD ?_ | with_reducible refine ExtDN ?_ | with_reducible refine ExtA ?_ | (with_reducible refine ExtR ?_ ?_; (first | omega | (dsimp only; omega) | (simp; done) | (simp; omega))) | (with_reducible refine ExtS ?_ ?_; (first | omega | (dsimp only; omega) | (simp; done) | (simp; omega))) | with_reducible refine Ext.tr ?_ (by with_reducible assumption)))⟩
set_option maxRecDepth 100000 in
set_option maxHeartbeats 2000000 in
theorem free_any (W w : World) (g b : Nat) (d : Dk) (D : DataW Value) (hs : List HF) (h : FsX W w g d b D hs) (hk : DkOk d) :
    Calls Try.prog 20 #[ptrV g] w fun e w' => e = .returned (.int .i64 (d.room - d.used)) ∧ Ext w w' := by
  unfold ptrV
  have k2 : w.cell? ⟨g, 2, none⟩ = some (.int .i64 d.used) := h.blk.cell 2
  have k1 : w.cell? ⟨g, 1, none⟩ = some (.int .i64 d.room) := h.blk.cell 1
  have hu0 : 0 ≤ d.used := by rw [hk.1]; omega
  have hrm := hk.2.2
  have hur := hk.2.1
  clear h hk
  go_enter Try.func20, Try.ntmps20
  go_wp2_with fail
  go_quiet (fail)
  go_wp2_with fail
  go_ret
  exact ⟨rfl, (by repeat (first | with_reducible exact Below.refl _ _ | with_reducible assumption | with_reducible refine ExtD ?_ | with_reducible refine ExtDN ?_ | with_reducible refine ExtA ?_ | (with_reducible refine ExtR ?_ ?_; (first | omega | (dsimp only; omega) | (simp; done) | (simp; omega))) | (with_reducible refine ExtS ?_ ?_; (first | omega | (dsimp only; omega) | (simp; done) | (simp; omega))) | with_reducible refine Ext.tr ?_ (by with_reducible assumption)))⟩
/-- Bytes in a block of their own, behind a call on the disk. -/
theorem rd_turn {F : List Nat} {w w' : World} {base n c : Nat} {A : Option Addr} {l : List UInt8} (h : w.ownsRow base 5 1 (.slice A n c) n (u8s l)) (ht : Turn F w w') (hn : ∀ r, (Value.slice A n c).ownBlock = some r → r ∉ F) : Rd w' A n (u8s l) := Rd.of_own (ht.own h hn)
theorem own_new8 (w : World) (l : List UInt8) (n : Nat) (hn : n = l.length) (hm : n ≤ maxLen) (cs : Array Value) (hc : cs = (u8s l).toArray) : (w.alloc (.cells cs 5)).ownsRow w.heap.size 5 1 (.slice (some ⟨w.heap.size, 0, none⟩) n n) n (u8s l) := by
  subst hc hn
  have h := own_new (s := 1) w w.heap.size (u8s l).toArray 5 l.length (Nat.le_refl _) hm (by simp [u8s])
  simpa using h
def z8 : List UInt8 := [0, 0, 0, 0, 0, 0, 0, 0]
theorem c123 : (#[.int .u8 1, .int .u8 2, .int .u8 3] : Array Value) = (u8s [1, 2, 3]).toArray := rfl
theorem b8 : bpart z8 0 = (u8s z8).toArray := rfl
def nmA : ByteArray := ⟨#[97]⟩
def dA : Dk := ⟨[⟨nmA, [], 0⟩], 10, 0, 1, 0, 0, false⟩
def dB : Dk := ⟨[⟨nmA, [1, 2, 3], 0⟩], 10, 3, 2, 0, 0, false⟩
theorem rA : rightB nmA = true := by decide
theorem cA : createD (newD 10) nmA = (dA, 0) := by
  have h1 : openE (newD 10) nmA = 51 := by unfold openE; rw [rA]; rfl
  unfold createD
  rw [h1]
  rfl
theorem cB : appendD dA nmA [1, 2, 3] = (dB, 0) := by
  have h1 : openE dA nmA = 0 := by unfold openE; rw [rA]; rfl
  unfold appendD
  rw [h1]
  rfl
theorem cC : appendD dB nmA z8 = (dB, 54) := by
  have h1 : openE dB nmA = 0 := by unfold openE; rw [rA]; rfl
  unfold appendD
  rw [h1]
  rfl
theorem nA : DkNum (newD 10) ∧ DkNum dA ∧ DkNum dB := by unfold DkNum newD dA dB; simp
theorem kA : DkOk dA ∧ DkOk dB := by unfold DkOk dA dB; simp
set_option maxRecDepth 100000 in
set_option maxHeartbeats 4000000 in
theorem head_any (w : World) : Calls Try.prog 5 #[] w fun e w' => e = .returned (.bool true) ∧ Ext w w' := by
  have KN := Lib.hid (fsnew_any 10)
  have KC := Lib.hid fun W w1 g b D hs (h : FsX W w1 g (newD 10) b D hs) => create_any W w1 g b (newD 10) D hs nmA h nA.1
  have KA := Lib.hid fun W w1 g b D hs B c (h : FsX W w1 g dA b D hs) hr => append_any W w1 g b dA D hs nmA B 3 c [1, 2, 3] h nA.2.1 kA.1 rfl (by omega) hr
  have KB := Lib.hid fun W w1 g b D hs B c (h : FsX W w1 g dB b D hs) hr => append_any W w1 g b dB D hs nmA B 8 c z8 h nA.2.2 kA.2 rfl (by omega) hr
  have KU := Lib.hid fun W w1 g b D hs (h : FsX W w1 g dB b D hs) => used_any W w1 g b dB D hs h
  have KF := Lib.hid fun W w1 g b D hs (h : FsX W w1 g dB b D hs) => free_any W w1 g b dB D hs h kA.2
  have hmk : ∀ w : World, (Instr.makeSlice 31 (.int .i64 8) (.int .i64 8)).run Try.prog w = .ok (.slice (some ⟨w.heap.size, 0, none⟩) 8 8) (w.alloc (.cells (bpart z8 0) 5)) := fun w => made_u8 z8 (by unfold z8; decide) w
  rw [cA] at KC
  rw [cB] at KA
  rw [cC] at KB
  unfold ptrV at *
  unfold nmA at KC KA KB
  go_enter Try.func5, Try.ntmps5
  go_wp2_with (first
    | (go_at_call 6; go_loud ((with_reducible refine (KN.out _).mono ?_); rintro e w1 ⟨g, b, rfl, hX1⟩))
    | (go_at_call 17; go_loud ((with_reducible refine (KC.out _ _ _ _ _ _ hX1).mono ?_); rintro e w2 ⟨rfl, D2, hs2, hX2, -, -⟩))
    | (go_at_call 18; (with_reducible refine (KA.out _ _ g b _ _ _ _ (hX2.ext_ (by repeat (first | with_reducible exact Below.refl _ _ | with_reducible assumption | with_reducible refine ExtD ?_ | with_reducible refine ExtDN ?_ | with_reducible refine ExtA ?_ | (with_reducible refine ExtR ?_ ?_; (first | omega | (dsimp only; omega) | (simp; done) | (simp; omega))) | (with_reducible refine ExtS ?_ ?_; (first | omega | (dsimp only; omega) | (simp; done) | (simp; omega))) | with_reducible refine Ext.tr ?_ (by with_reducible assumption)))) (fun w' ht => rd_turn (own_new8 w2 [1, 2, 3] 3 rfl (by decide) #[.int .u8 1, .int .u8 2, .int .u8 3] c123) ht (fun r hr hc => by simp [Value.ownBlock] at hr; have := hX2.lt r hc; omega))).mono ?_); rintro e w3 ⟨rfl, D3, hs3, hX3, -, -⟩)
    | (go_at_call 19; go_loud ((with_reducible refine (KU.out _ _ _ _ _ _ hX3).mono ?_); rintro e w4 ⟨rfl, hx4⟩; have hX4 := hX3.ext_ hx4))
    | (go_at_call 20; go_loud ((with_reducible refine (KF.out _ _ _ _ _ _ hX4).mono ?_); rintro e w5 ⟨rfl, hx5⟩; have hX5 := hX4.ext_ hx5))
    | (go_at_call 18; go_loud ((with_reducible refine (KB.out _ _ g b _ _ _ _ (hX5.ext_ (by repeat (first | with_reducible exact Below.refl _ _ | with_reducible assumption | with_reducible refine ExtD ?_ | with_reducible refine ExtDN ?_ | with_reducible refine ExtA ?_ | (with_reducible refine ExtR ?_ ?_; (first | omega | (dsimp only; omega) | (simp; done) | (simp; omega))) | (with_reducible refine ExtS ?_ ?_; (first | omega | (dsimp only; omega) | (simp; done) | (simp; omega))) | with_reducible refine Ext.tr ?_ (by with_reducible assumption)))) (fun w' ht => rd_turn (own_new8 w5 z8 8 rfl (by decide) (bpart z8 0) b8) ht (fun r hr hc => by simp [Value.ownBlock] at hr; have := hX5.lt r hc; omega))).mono ?_); rintro e w6 ⟨rfl, D6, hs6, hX6, -, -⟩)))
  go_ret
  exact ⟨rfl, hX6.ext⟩
def nmS : ByteArray := ⟨#[115, 101, 103, 45, 48, 48, 48, 48, 48, 49]⟩
theorem rS : rightB nmS = true := by decide
def dN (nm : ByteArray) : Dk := ⟨[⟨nm, [], 0⟩], 1, 0, 1, 0, 0, false⟩
theorem cN {nm : ByteArray} (h : rightB nm = true) : createD (newD 1) nm = (dN nm, 0) := by
  have h1 : openE (newD 1) nm = 51 := by unfold openE; rw [h]; rfl
  unfold createD
  rw [h1]
  rfl
theorem cN2 {nm : ByteArray} (h : rightB nm = true) : createD (dN nm) nm = (dN nm, 52) := by
  have h1 : openE (dN nm) nm = 0 := by
    unfold openE
    rw [h, if_neg (by simp [dN]), if_neg (by simp), if_pos (by simp [dN])]
  unfold createD
  rw [h1]
  rfl
theorem cNo {nm : ByteArray} (h : rightB nm = false) : createD (newD 1) nm = (newD 1, 50) := by
  have h1 : openE (newD 1) nm = 50 := by unfold openE; rw [h]; rfl
  unfold createD
  rw [h1]
  rfl
theorem nN (nm : ByteArray) : DkNum (newD 1) ∧ DkNum (dN nm) := by unfold DkNum newD dN; simp
end Go.Proofs.Ytdoaniimfhpjhaa
