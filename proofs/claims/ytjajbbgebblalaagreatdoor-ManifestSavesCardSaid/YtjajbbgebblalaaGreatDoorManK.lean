/-
  slices.Chunk over four numbers at a time: its closure's contract.
-/
/-
  slices.Chunk: the iterator's contract for a loop; the call that makes it.
-/
import Derived.RangeFuncBox
import Derived.RangeFuncFrom
import Derived.RangeFuncLeaves
import Derived.Shelf.Abstract
import Derived.WalkKit
import Derived.OwnWalkIn
import Derived.TacticsInMore
import Derived.LoopNIn
import Derived.LoopIn
import Derived.BigRegionIn
import Derived.Test.YtjajbbgebblalaaGreatDoorSteps
import Derived.Test.YtjajbbgebblalaaGreatDoorProg
namespace Go.Proofs.YtjajbbgebblalaaGreatDoor
open Go.RowKit
set_option linter.unusedVariables false
set_option linter.unusedSimpArgs false
open Go.Shelf
attribute [local go_sem] Oper.semAt_some
/-- What has come when k rounds are over. -/
def chs (q k : Nat) : List {j : Nat // j < q} := (List.range k).filterMap fun j => if h : j < q then some ⟨j, h⟩ else none
theorem chs_succ {q k : Nat} (h : k < q) : chs q (k + 1) = chs q k ++ [⟨k, h⟩] := by
  unfold chs
  rw [List.range_succ, List.filterMap_append]
  simp [h]
theorem chs_length {q k : Nat} (h : k ≤ q) : (chs q k).length = k := by
  induction k with
  | zero => rfl
  | succ k ih => rw [chs_succ (by omega), List.length_append, ih (by omega)]; rfl
/-- What a round must keep. -/
def KpC (n₀ Bs Bn : Nat) (W W' : World) : Prop := Below n₀ W W' ∧ W'.heap[Bs]? = W.heap[Bs]? ∧ W'.heap[Bn]? = W.heap[Bn]?
theorem KpC.refl (n₀ Bs Bn : Nat) (W : World) : KpC n₀ Bs Bn W W := ⟨Below.refl _ _, rfl, rfl⟩
theorem KpC.trans {n₀ Bs Bn : Nat} {A B C : World} (h : KpC n₀ Bs Bn A B) (k : KpC n₀ Bs Bn B C) : KpC n₀ Bs Bn A C := ⟨h.1.trans k.1, k.2.1.trans h.2.1, k.2.2.trans h.2.2⟩
theorem cell_of_heap {A B : World} {b : Nat} (h : B.heap[b]? = A.heap[b]?) (i : Nat) : B.cell? ⟨b, i, none⟩ = A.cell? ⟨b, i, none⟩ := by
  unfold World.cell?
  simp only [h]
set_option maxRecDepth 100000 in
set_option maxHeartbeats 2000000 in
theorem chunk1_in (F : Fence) (n : Nat) (h42 : F.fn 146) (hro : F.round = none) (hn : 1 ≤ n) (l Bs Bn n₀ b off q cap : Nat) (hreach : 4 * q * 8 ≤ 140737488351232) (hcap : 4 * q ≤ cap)
    (J Jx : List {j : Nat // j < q} → World → Prop)
    (hJd : ∀ pre W, J pre W → J pre W.drew)
    (hY : ∀ pre x W, J pre W → pre.length < q → YieldAt F (n - 1) Tryz.prog l #[.slice (some ⟨b, off + 4 * x.1, none⟩) 4 4] W fun e W' =>
      (e = .returned (.bool true) ∧ J (pre ++ [x]) W' ∧ KpC n₀ Bs Bn W W') ∨ (e = .returned (.bool false) ∧ Jx (pre ++ [x]) W'))
    (W : World) (hBs : W.cell? ⟨Bs, 0, none⟩ = some (.slice (some ⟨b, off, none⟩) (4 * q : Nat) cap)) (hBn : W.cell? ⟨Bn, 0, none⟩ = some (.int .i64 4)) (h0 : J [] W) :
    CallsIn F n Tryz.prog 146 #[.func (.yield l) #[] #[], .pointer (some ⟨Bs, 0, none⟩), .pointer (some ⟨Bn, 0, none⟩)] W fun e W' => (∃ v, e = .returned v) ∧
      ((∃ ys, ys = chs q q ∧ J ys W') ∨ (∃ pre, (∃ k, k ≤ q ∧ pre = chs q k) ∧ Jx pre W')) := by
  refine callsIn_of_wp Tryz.func146 rfl h42 ?_ hro
  simp only [Tryz.ntmps146, List.size_toArray, List.length_cons, List.length_nil, Nat.reduceAdd, Nat.reduceSub, Array.replicate_succ, Array.replicate_zero, List.push_toArray, List.append_toArray, List.nil_append, List.cons_append]
  gi_wp2
  gi_loopw [4] (fun i wr => ∃ k : Nat, k ≤ q ∧ i = .int .i64 (4 * k : Nat) ∧ J (chs q k) wr ∧ KpC n₀ Bs Bn W wr)
    (fun i _ => 4 * q - (intOf i).toNat)
  case atStart => exact ⟨0, Nat.zero_le _, rfl, h0, KpC.refl _ _ _ _⟩
  case round =>
    obtain ⟨k, hk, rfl, hJs, hnx⟩ := hrel
    have hs1 := (cell_of_heap hnx.2.1 0).trans hBs
    have hs2 := (cell_of_heap hnx.2.2 0).trans hBn
    by_cases hlt : k < q
    · obtain ⟨fn, tmps, assign, body, hy, hR⟩ := hY _ ⟨k, hlt⟩ wr.drew (hJd _ _ hJs) (by rw [chs_length hk]; exact hlt)
      dsimp only at hy
      have hl1 : (4 * k : Nat) < 4 * q := by omega
      have hc1 : ¬ cap = 4 * k := by omega
      have hc2 : (4 : Int) ≤ ((4 * q - 4 * k : Nat) : Int) := by omega
      gi_wp2
      gi_region
      all_goals gi_wp2
      all_goals try (exfalso; omega)
      all_goals
        refine hR.mono ?_
        rintro e W3 (⟨rfl, hJ3, hk3⟩ | ⟨rfl, hJx3⟩)
        · have hs3 := (cell_of_heap hk3.2.2 0).trans (show wr.drew.cell? ⟨Bn, 0, none⟩ = some (.int .i64 4) from hs2)
          gi_wp2
          go_roundw
          case rel => exact ⟨k + 1, by omega, by simp; omega, by rw [chs_succ hlt]; exact hJ3, hnx.trans (KpC.trans ⟨(Below.refl n₀ wr).drew, rfl, rfl⟩ hk3)⟩
          case measure => simp [intOf]; omega
        · gi_wp2
          refine bodyPost_ret (results_none rfl _ _ _) rfl ?_
          exact ⟨⟨_, rfl⟩, .inr ⟨_, ⟨k + 1, by omega, (chs_succ hlt).symm⟩, hJx3⟩⟩
    · obtain rfl : k = q := by omega
      gi_wp2
      go_end0
      exact ⟨⟨_, rfl⟩, .inl ⟨_, rfl, hJs⟩⟩
end Go.Proofs.YtjajbbgebblalaaGreatDoor

namespace Go.Proofs.YtjajbbgebblalaaGreatDoor
open Go.RowKit
set_option linter.unusedVariables false
set_option linter.unusedSimpArgs false
open Go.Shelf
attribute [local go_sem] Oper.semAt_some
theorem grown_drewC (w : World) (row : Option Nat) : w.grownBy w.drew row := ⟨rfl, rfl, rfl, Nat.le_refl _, fun _ _ _ => rfl⟩
set_option maxRecDepth 100000 in
theorem chunk_stops (F : Fence) (n : Nat) (h42 : F.fn 146) (hro : F.round = none) (hn : 1 ≤ n) (Bs Bn n₀ b off q cap : Nat) (hreach : 4 * q * 8 ≤ 140737488351232) (hcap : 4 * q ≤ cap) (w : World) (hBs : Bs < w.heap.size) (hBn : Bn < w.heap.size)
    (hs : w.cell? ⟨Bs, 0, none⟩ = some (.slice (some ⟨b, off, none⟩) (4 * q : Nat) cap)) (hn4 : w.cell? ⟨Bn, 0, none⟩ = some (.int .i64 4)) :
    SeqStopsK F n Tryz.prog 146 #[.pointer (some ⟨Bs, 0, none⟩), .pointer (some ⟨Bn, 0, none⟩)] (fun x : {j : Nat // j < q} => #[Value.slice (some ⟨b, off + 4 * x.1, none⟩) 4 4]) (KpC n₀ Bs Bn)
      (fun ys => ys = chs q q) (fun pre => ∃ k, k ≤ q ∧ pre = chs q k) q w := fun l J Jx W hW hJ _ hY h0 =>
  chunk1_in F n h42 hro hn l Bs Bn n₀ b off q cap hreach hcap J Jx (fun pre W1 h => hJ pre W1 W1.drew none h (grown_drewC _ _) (fun r e => by cases e)) hY W
    ((hW.cell (p := ⟨Bs, 0, none⟩) hBs).trans hs) ((hW.cell (p := ⟨Bn, 0, none⟩) hBn).trans hn4) h0
set_option maxRecDepth 100000 in
set_option maxHeartbeats 2000000 in
theorem chunk_in (F : Fence) (n : Nat) (h30 : F.fn 102) (hro : F.round = none) (a : Option Addr) (len cap : Nat) (w : World) :
    CallsIn F n Tryz.prog 102 #[.slice a len cap, .int .i64 4] w fun e w' =>
      e = .returned (.func (.func 146) #[] #[.pointer (some ⟨w.heap.size, 0, none⟩), .pointer (some ⟨w.heap.size + 1, 0, none⟩)]) ∧
      w' = (w.alloc (.cells #[.slice a len cap] 113)).alloc (.cells #[.int .i64 4] 3) := by
  refine callsIn_of_wp Tryz.func102 rfl h30 ?_ hro
  simp only [Tryz.ntmps102, List.size_toArray, List.length_cons, List.length_nil, Nat.reduceAdd, Nat.reduceSub, Array.replicate_succ, Array.replicate_zero, List.push_toArray, List.append_toArray, List.nil_append, List.cons_append]
  gi_wp2
  go_ret
  exact ⟨rfl, rfl⟩
end Go.Proofs.YtjajbbgebblalaaGreatDoor
