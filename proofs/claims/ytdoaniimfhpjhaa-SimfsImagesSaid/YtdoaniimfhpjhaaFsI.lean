/-
  A disk in memory; Size, Read, Fuse, Down, Steps, ReadBytes.
-/
import Derived.Test.YtdoaniimfhpjhaaFsH
namespace Go.Proofs.Ytdoaniimfhpjhaa
open Go.RowKit
set_option linter.unusedVariables false
set_option linter.unusedSimpArgs false
open Go.Maps
def getF (d : Dk) (nm : ByteArray) : Option Fil := d.files.find? fun f => decide (f.name = nm)
theorem getF_eq {W w : World} {g b : Nat} {d : Dk} {D : DataW Value} {l1 l2 : List HF} {f : HF} {nm : ByteArray} (h : FsX W w g d b D (l1 ++ f :: l2)) (hf : f.1.name = nm) : getF d nm = some f.1 := by
  obtain ⟨h1, h2⟩ := names_apart h.map hf
  unfold getF
  rw [← h.hsd, List.map_append, List.find?_append]
  have : (l1.map (·.1)).find? (fun f => decide (f.name = nm)) = none := by
    rw [List.find?_eq_none]
    intro x hx
    obtain ⟨y, hy, rfl⟩ := List.mem_map.1 hx
    simpa using h1 y hy
  rw [this, List.map_cons, List.find?_cons_of_pos (by simpa using hf)]
  rfl
def sizeD (d : Dk) (nm : ByteArray) : Nat × Nat := if openE d nm ≠ 0 then (0, openE d nm) else (((getF d nm).map (·.data.length)).getD 0, 0)
set_option maxRecDepth 100000 in
set_option maxHeartbeats 4000000 in
theorem size_any (W w : World) (g b : Nat) (d : Dk) (D : DataW Value) (hs : List HF) (nm : ByteArray) (h : FsX W w g d b D hs) :
    Calls Try.prog 36 #[ptrV g, .string nm] w fun e w' => e = .returned (.tuple #[.int .i64 ((sizeD d nm).1 : Nat), .int .i64 ((sizeD d nm).2 : Nat)]) ∧ Ext w w' := by
  have HX := Lib.hid h
  unfold ptrV
  by_cases h0 : openE d nm = 0
  · obtain ⟨l1, l2, fd, fs, p, A, c0, rfl⟩ := fs_found h h0
    have KO := Lib.hid (open_hit W w g b d D l1 l2 nm fd fs p A c0 h h0)
    have FA := Lib.hid fun (w1 : World) (hx : Ext w w1) => ((HX.out.ext_ hx).fil (⟨nm, fd, fs⟩, p, A, c0) (by simp)).1
    unfold filcells at FA
    dsimp only at FA
    have hc : sizeD d nm = (fd.length, 0) := by unfold sizeD; rw [if_neg (by omega), getF_eq h (f := (⟨nm, fd, fs⟩, p, A, c0)) rfl]; rfl
    rw [hc]
    obtain ⟨n0, hn0⟩ : ∃ n0, n0 = fd.length := ⟨_, rfl⟩
    rw [← hn0] at FA ⊢
    clear hc h hn0
    go_enter Try.func36, Try.ntmps36
    go_wp2_with (go_at_call 44; (with_reducible refine (KO.out).mono ?_); rintro e w1 ⟨rfl, hx1⟩; have q0 : w1.cell? ⟨p, 0, none⟩ = some (.slice A n0 c0) := (FA.out _ hx1).cell 0)
    go_ret2
    exact ⟨rfl, (by repeat (first | with_reducible exact Below.refl _ _ | with_reducible assumption | with_reducible refine ExtD ?_ | with_reducible refine ExtDN ?_ | with_reducible refine ExtA ?_ | (with_reducible refine ExtR ?_ ?_; (first | omega | (dsimp only; omega) | (simp; done) | (simp; omega))) | (with_reducible refine ExtS ?_ ?_; (first | omega | (dsimp only; omega) | (simp; done) | (simp; omega))) | with_reducible refine Ext.tr ?_ (by with_reducible assumption)))⟩
  · have KO := Lib.hid (open_bad W w g b d D hs nm _ h rfl)
    have hc : sizeD d nm = (0, openE d nm) := by unfold sizeD; rw [if_pos h0]
    rw [hc]
    have e2 : (((openE d nm : Nat) : Int) != 0) = true := by simp; omega
    clear hc h
    generalize openE d nm = E at *
    go_enter Try.func36, Try.ntmps36
    go_wp2_with (go_at_call 44; (with_reducible refine (KO.out).mono ?_); rintro e w1 ⟨v, rfl, hx1⟩)
    go_ret2
    exact ⟨rfl, (by repeat (first | with_reducible exact Below.refl _ _ | with_reducible assumption | with_reducible refine ExtD ?_ | with_reducible refine ExtDN ?_ | with_reducible refine ExtA ?_ | (with_reducible refine ExtR ?_ ?_; (first | omega | (dsimp only; omega) | (simp; done) | (simp; omega))) | (with_reducible refine ExtS ?_ ?_; (first | omega | (dsimp only; omega) | (simp; done) | (simp; omega))) | with_reducible refine Ext.tr ?_ (by with_reducible assumption)))⟩
set_option maxRecDepth 100000 in
set_option maxHeartbeats 4000000 in
theorem fuse_any (W w : World) (g b : Nat) (d : Dk) (D : DataW Value) (hs : List HF) (n : Int) (h : FsX W w g d b D hs) :
    Calls Try.prog 38 #[ptrV g, .int .i64 n] w fun e w' => e = .returned (.tuple #[]) ∧ FsTo W w w' g b hs { d with fuse := max 0 n } := by
  have HX := Lib.hid h
  unfold ptrV
  have k5 : w.cell? ⟨g, 5, none⟩ = some (.int .i64 d.fuse) := h.blk.cell 5
  have f5 := h.blk.frozen 5
  clear h
  by_cases hn : 0 < n
  · have hm : max 0 n = n := by omega
    rw [hm]
    have d1 : decide (0 < n) = true := by simpa using hn
    clear hm
    go_enter Try.func38, Try.ntmps38
    go_wp2_with fail
    first | go_end0 | (refine bodyPost_ret (results_none rfl _ _ _) rfl ?_)
    exact ⟨rfl, HX.out.cells_to (Blk_eq (BlkS HX.out.blk) (by simp [fscells])) (grown_setF (grown_rfl w g)) rfl⟩
  · have hm : max 0 n = 0 := by omega
    rw [hm]
    have d1 : decide (0 < n) = false := by simpa using hn
    clear hm
    go_enter Try.func38, Try.ntmps38
    go_wp2_with fail
    first | go_end0 | (refine bodyPost_ret (results_none rfl _ _ _) rfl ?_)
    exact ⟨rfl, HX.out.cells_to (Blk_eq (BlkS HX.out.blk) (by simp [fscells])) (grown_setF (grown_rfl w g)) rfl⟩
set_option maxRecDepth 100000 in
set_option maxHeartbeats 4000000 in
theorem down_any (W w : World) (g b : Nat) (d : Dk) (D : DataW Value) (hs : List HF) (h : FsX W w g d b D hs) :
    Calls Try.prog 24 #[ptrV g] w fun e w' => e = .returned (.bool d.down) ∧ Ext w w' := by
  unfold ptrV
  have k6 : w.cell? ⟨g, 6, none⟩ = some (.bool d.down) := h.blk.cell 6
  clear h
  go_enter Try.func24, Try.ntmps24
  go_wp2_with fail
  go_ret
  exact ⟨rfl, (by repeat (first | with_reducible exact Below.refl _ _ | with_reducible assumption | with_reducible refine ExtD ?_ | with_reducible refine ExtDN ?_ | with_reducible refine ExtA ?_ | (with_reducible refine ExtR ?_ ?_; (first | omega | (dsimp only; omega) | (simp; done) | (simp; omega))) | (with_reducible refine ExtS ?_ ?_; (first | omega | (dsimp only; omega) | (simp; done) | (simp; omega))) | with_reducible refine Ext.tr ?_ (by with_reducible assumption)))⟩
set_option maxRecDepth 100000 in
set_option maxHeartbeats 4000000 in
theorem steps_any (W w : World) (g b : Nat) (d : Dk) (D : DataW Value) (hs : List HF) (h : FsX W w g d b D hs) :
    Calls Try.prog 22 #[ptrV g] w fun e w' => e = .returned (.int .i64 d.steps) ∧ Ext w w' := by
  unfold ptrV
  have k3 : w.cell? ⟨g, 3, none⟩ = some (.int .i64 d.steps) := h.blk.cell 3
  clear h
  go_enter Try.func22, Try.ntmps22
  go_wp2_with fail
  go_ret
  exact ⟨rfl, (by repeat (first | with_reducible exact Below.refl _ _ | with_reducible assumption | with_reducible refine ExtD ?_ | with_reducible refine ExtDN ?_ | with_reducible refine ExtA ?_ | (with_reducible refine ExtR ?_ ?_; (first | omega | (dsimp only; omega) | (simp; done) | (simp; omega))) | (with_reducible refine ExtS ?_ ?_; (first | omega | (dsimp only; omega) | (simp; done) | (simp; omega))) | with_reducible refine Ext.tr ?_ (by with_reducible assumption)))⟩
set_option maxRecDepth 100000 in
set_option maxHeartbeats 4000000 in
theorem reads_any (W w : World) (g b : Nat) (d : Dk) (D : DataW Value) (hs : List HF) (h : FsX W w g d b D hs) :
    Calls Try.prog 23 #[ptrV g] w fun e w' => e = .returned (.int .i64 d.read) ∧ Ext w w' := by
  unfold ptrV
  have k4 : w.cell? ⟨g, 4, none⟩ = some (.int .i64 d.read) := h.blk.cell 4
  clear h
  go_enter Try.func23, Try.ntmps23
  go_wp2_with fail
  go_ret
  exact ⟨rfl, (by repeat (first | with_reducible exact Below.refl _ _ | with_reducible assumption | with_reducible refine ExtD ?_ | with_reducible refine ExtDN ?_ | with_reducible refine ExtA ?_ | (with_reducible refine ExtR ?_ ?_; (first | omega | (dsimp only; omega) | (simp; done) | (simp; omega))) | (with_reducible refine ExtS ?_ ?_; (first | omega | (dsimp only; omega) | (simp; done) | (simp; omega))) | with_reducible refine Ext.tr ?_ (by with_reducible assumption)))⟩
end Go.Proofs.Ytdoaniimfhpjhaa
