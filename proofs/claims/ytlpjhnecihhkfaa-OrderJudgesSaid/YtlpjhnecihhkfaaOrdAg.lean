/-
  The walk of the laws' head: one order from the first event to the last.
-/
import Derived.Test.YtlpjhnecihhkfaaOrdAe
namespace Go.Proofs.Ytlpjhnecihhkfaa
open Go.RowKit
set_option linter.unusedVariables false
set_option linter.unusedSimpArgs false
def hE1 : Ev := ⟨1, 7, 0, 0, 0, 0, 1000, ⟨#[]⟩, 0, ⟨#[]⟩⟩
def hE2 : Ev := ⟨2, 7, 3, 2, 500, 0, 0, ⟨#[]⟩, 0, ⟨#[]⟩⟩
def hE3 : Ev := ⟨2, 7, 1, 1, 99, 0, 0, ⟨#[]⟩, 0, ⟨#[]⟩⟩
def hE4 : Ev := ⟨3, 7, 0, 0, 1208, 0, 0, ⟨#[]⟩, 0, ⟨#[]⟩⟩
def hL : List Ln := [⟨1, 99, 1, 0⟩, ⟨3, 500, 2, 0⟩]
def hS : St := ⟨7, 1, 0, 0, 1000, hL, 0, 0, 3, 0, 0, ⟨#[]⟩⟩
def hT : St := ⟨7, 3, 0, 0, 1000, hL, 1208, 0, 4, 0, 0, ⟨#[]⟩⟩
theorem head_fold : fold (noSt 7) [hE1, hE2, hE3] = hS := by kernel_rfl
theorem head_valid : validB hS = true := by kernel_rfl
theorem head_due : due hS = 1208 := by kernel_rfl
theorem head_apply : apply hS hE4 = (hT, 0) := by kernel_rfl
theorem head_valid2 : validB hT = true := by kernel_rfl
theorem es_head {w : World} {h : Nat} (hb : Blk w h 28 #[.int .i64 1, .int .i64 7, .int .i64 0, .int .i64 0, .int .i64 0, .int .i64 0, .int .i64 1000, .string ⟨#[]⟩, .int .i64 0, .string ⟨#[]⟩, .int .i64 2, .int .i64 7, .int .i64 3, .int .i64 2, .int .i64 500, .int .i64 0, .int .i64 0, .string ⟨#[]⟩, .int .i64 0, .string ⟨#[]⟩, .int .i64 2, .int .i64 7, .int .i64 1, .int .i64 1, .int .i64 99, .int .i64 0, .int .i64 0, .string ⟨#[]⟩, .int .i64 0, .string ⟨#[]⟩]) : EsRd w (some ⟨h, 0, none⟩) [hE1, hE2, hE3] :=
  ⟨rfl, fun _ => ⟨h, 0, rfl, fun j u hu => by
    rw [Nat.zero_add, hb.cell, ← Array.getElem?_toList]
    exact hu⟩⟩
theorem hd_fold (w : World) (h : Nat) (hb : Blk w h 28 #[.int .i64 1, .int .i64 7, .int .i64 0, .int .i64 0, .int .i64 0, .int .i64 0, .int .i64 1000, .string ⟨#[]⟩, .int .i64 0, .string ⟨#[]⟩, .int .i64 2, .int .i64 7, .int .i64 3, .int .i64 2, .int .i64 500, .int .i64 0, .int .i64 0, .string ⟨#[]⟩, .int .i64 0, .string ⟨#[]⟩, .int .i64 2, .int .i64 7, .int .i64 1, .int .i64 1, .int .i64 99, .int .i64 0, .int .i64 0, .string ⟨#[]⟩, .int .i64 0, .string ⟨#[]⟩]) :
    Calls Try.prog 28 #[.agg #[.int .i64 7, .int .i64 0, .int .i64 0, .int .i64 0, .int .i64 0, .slice none 0 0, .int .i64 0, .int .i64 0, .int .i64 0, .int .i64 0, .int .i64 0, .string ⟨#[]⟩], .slice (some ⟨h, 0, none⟩) 3 3] w fun e w' => ∃ A c, e = .returned (.agg #[.int .i64 7, .int .i64 1, .int .i64 0, .int .i64 0, .int .i64 1000, .slice A 2 c, .int .i64 0, .int .i64 0, .int .i64 3, .int .i64 0, .int .i64 0, .string ⟨#[]⟩]) ∧ Ext w w' ∧ OwnLs w' w.heap.size A hL c := by
  have := fold_any (noSt 7) [hE1, hE2, hE3] none (some ⟨h, 0, none⟩) 0 3 w (RdN.nil_ _ _ _) (es_head hb) ⟨by decide, by decide⟩ (by intro e he; simp at he; rcases he with rfl | rfl | rfl <;> exact ⟨by decide, by decide⟩) (by decide)
  rw [head_fold] at this
  exact this
theorem hd_due (w : World) (A : Option Addr) (c : Nat) (hr : LsRd w A hL) :
    Calls Try.prog 21 #[.agg #[.int .i64 7, .int .i64 1, .int .i64 0, .int .i64 0, .int .i64 1000, .slice A 2 c, .int .i64 0, .int .i64 0, .int .i64 3, .int .i64 0, .int .i64 0, .string ⟨#[]⟩]] w fun e w' => e = .returned (.tuple #[.int .i64 1208, .bool true]) ∧ Ext w w' := by
  have := pdue_any hS A c w hr (by decide) (by decide)
  rw [head_valid, if_pos rfl, head_due] at this
  exact this
theorem hd_apply (w : World) (A : Option Addr) (c : Nat) (hr : LsRd w A hL) :
    Calls Try.prog 27 #[.agg #[.int .i64 7, .int .i64 1, .int .i64 0, .int .i64 0, .int .i64 1000, .slice A 2 c, .int .i64 0, .int .i64 0, .int .i64 3, .int .i64 0, .int .i64 0, .string ⟨#[]⟩], .agg #[.int .i64 3, .int .i64 7, .int .i64 0, .int .i64 0, .int .i64 1208, .int .i64 0, .int .i64 0, .string ⟨#[]⟩, .int .i64 0, .string ⟨#[]⟩]] w fun e w' => ∃ A' c', e = .returned (.tuple #[.agg #[.int .i64 7, .int .i64 3, .int .i64 0, .int .i64 0, .int .i64 1000, .slice A' 2 c', .int .i64 1208, .int .i64 0, .int .i64 4, .int .i64 0, .int .i64 0, .string ⟨#[]⟩], .int .i64 0]) ∧ Ext w w' ∧ OwnLs w' w.heap.size A' hL c' := by
  have := apply_any hS hE4 A c w hr (by decide) (by decide) (by decide) (by decide)
  rw [head_apply] at this
  exact this
theorem hd_valid (w : World) (A : Option Addr) (c : Nat) (hr : LsRd w A hL) :
    Calls Try.prog 22 #[.agg #[.int .i64 7, .int .i64 3, .int .i64 0, .int .i64 0, .int .i64 1000, .slice A 2 c, .int .i64 1208, .int .i64 0, .int .i64 4, .int .i64 0, .int .i64 0, .string ⟨#[]⟩]] w fun e w' => e = .returned (.bool true) ∧ Ext w w' := by
  have := valid_any hT A c w hr (by decide) (by decide)
  rw [head_valid2] at this
  exact this
theorem hd_empty (w : World) : Calls Try.prog 14 #[.int .i64 7] w fun e w' => e = .returned (.agg #[.int .i64 7, .int .i64 0, .int .i64 0, .int .i64 0, .int .i64 0, .slice none 0 0, .int .i64 0, .int .i64 0, .int .i64 0, .int .i64 0, .int .i64 0, .string ⟨#[]⟩]) ∧ Ext w w' := empty_any 7 w
set_option maxRecDepth 100000 in
set_option maxHeartbeats 4000000 in
theorem head_any (w : World) : Calls Try.prog 20 #[] w fun e w' => e = .returned (.bool true) ∧ Ext w w' := by
  have K0 := Lib.hid hd_empty
  have K1 := Lib.hid hd_fold
  have K2 := Lib.hid hd_due
  have K3 := Lib.hid hd_apply
  have K4 := Lib.hid hd_valid
  go_enter Try.func20, Try.ntmps20
  go_wp2_with (first
    | (go_at_call 14; (with_reducible refine (K0.out _).mono ?_); rintro e w1 ⟨rfl, hx1⟩)
    | (go_at_call 28; (with_reducible refine (K1.out _ _ (BlkN rfl)).mono ?_); rintro e w2 ⟨A2, c2, rfl, hx2, ho2⟩; obtain ⟨lb, _, rfl, _, _⟩ := own_blk ho2 (by decide))
    | (go_at_call 21; (with_reducible refine (K2.out _ _ _ (LsRd.ext ho2.rd (by repeat (first | with_reducible exact Below.refl _ _ | with_reducible assumption | with_reducible refine ExtD ?_ | with_reducible refine ExtDN ?_ | with_reducible refine ExtA ?_ | (with_reducible refine ExtR ?_ ?_; (first | omega | (dsimp only; omega) | (simp; done) | (simp; omega))) | (with_reducible refine ExtS ?_ ?_; (first | omega | (dsimp only; omega) | (simp; done) | (simp; omega))) | with_reducible refine Ext.tr ?_ (by with_reducible assumption))))).mono ?_); rintro e w3 ⟨rfl, hx3⟩; have b3 : Blk w3 w2.heap.size 25 #[.int .i64 7, .int .i64 1, .int .i64 0, .int .i64 0, .int .i64 1000, .slice (some ⟨lb, 0, none⟩) 2 c2, .int .i64 0, .int .i64 0, .int .i64 3, .int .i64 0, .int .i64 0, .string ⟨#[]⟩] := BlkE (BlkN rfl) hx3; have o3 := (OwnA (o := .cells #[.int .i64 7, .int .i64 1, .int .i64 0, .int .i64 0, .int .i64 1000, .slice (some ⟨lb, 0, none⟩) 2 c2, .int .i64 0, .int .i64 0, .int .i64 3, .int .i64 0, .int .i64 0, .string ⟨#[]⟩] 25) ho2).mono hx3)
    | (go_at_call 27; (with_reducible refine (K3.out _ _ _ (LsRd.ext ho2.rd (by repeat (first | with_reducible exact Below.refl _ _ | with_reducible assumption | with_reducible refine ExtD ?_ | with_reducible refine ExtDN ?_ | with_reducible refine ExtA ?_ | (with_reducible refine ExtR ?_ ?_; (first | omega | (dsimp only; omega) | (simp; done) | (simp; omega))) | (with_reducible refine ExtS ?_ ?_; (first | omega | (dsimp only; omega) | (simp; done) | (simp; omega))) | with_reducible refine Ext.tr ?_ (by with_reducible assumption))))).mono ?_); rintro e w4 ⟨A4, c4, rfl, hx4, ho4⟩; have b4 := fun ob => BlkA (o := ob) (BlkE b3 hx4); have y5 : ∀ ob, (w4.alloc ob).cell? ⟨w2.heap.size, 5, none⟩ = some (.slice (some ⟨lb, 0, none⟩) 2 c2) := fun ob => (b4 ob).cell 5; have y0 : ∀ ob, (w4.alloc ob).cell? ⟨lb, 0, none⟩ = some (.int .i64 1) := fun ob => own_at (OwnA (o := ob) (o3.mono hx4)) (k := 0) (by decide) 0 _ rfl)
    | (go_at_call 22; (with_reducible refine (K4.out _ _ _ (LsRd.ext ho4.rd (by repeat (first | with_reducible exact Below.refl _ _ | with_reducible assumption | with_reducible refine ExtD ?_ | with_reducible refine ExtDN ?_ | with_reducible refine ExtA ?_ | (with_reducible refine ExtR ?_ ?_; (first | omega | (dsimp only; omega) | (simp; done) | (simp; omega))) | (with_reducible refine ExtS ?_ ?_; (first | omega | (dsimp only; omega) | (simp; done) | (simp; omega))) | with_reducible refine Ext.tr ?_ (by with_reducible assumption))))).mono ?_); rintro e w5 ⟨rfl, hx5⟩)
    | (with_reducible refine wpL_load_row rfl 25 (.tmp 1) rfl _ 25 _ 12 rfl b3 st_wide (st_size' _ _ _ _ _ _ _ _ _ _ _ _ _ _) ?_))
  go_ret
  exact ⟨rfl, (by repeat (first | with_reducible exact Below.refl _ _ | with_reducible assumption | with_reducible refine ExtD ?_ | with_reducible refine ExtDN ?_ | with_reducible refine ExtA ?_ | (with_reducible refine ExtR ?_ ?_; (first | omega | (dsimp only; omega) | (simp; done) | (simp; omega))) | (with_reducible refine ExtS ?_ ?_; (first | omega | (dsimp only; omega) | (simp; done) | (simp; omega))) | with_reducible refine Ext.tr ?_ (by with_reducible assumption)))⟩
end Go.Proofs.Ytlpjhnecihhkfaa
