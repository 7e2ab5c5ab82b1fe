/-
  slices.Chunk: the iterator's contract for a loop; the call that makes it.
-/
import Derived.Test.YtjomgppbialeoaaDoorManK
namespace Go.Proofs.YtjomgppbialeoaaDoor
open Go.RowKit
set_option linter.unusedVariables false
set_option linter.unusedSimpArgs false
open Go.Shelf
attribute [local go_sem] Oper.semAt_some
theorem grown_drewC (w : World) (row : Option Nat) : w.grownBy w.drew row := ⟨rfl, rfl, rfl, Nat.le_refl _, fun _ _ _ => rfl⟩
set_option maxRecDepth 100000 in
theorem chunk_stops (F : Fence) (n : Nat) (h42 : F.fn 42) (hro : F.round = none) (hn : 1 ≤ n) (Bs Bn n₀ b off q cap : Nat) (hreach : 4 * q * 8 ≤ 140737488351232) (hcap : 4 * q ≤ cap) (w : World) (hBs : Bs < w.heap.size) (hBn : Bn < w.heap.size)
    (hs : w.cell? ⟨Bs, 0, none⟩ = some (.slice (some ⟨b, off, none⟩) (4 * q : Nat) cap)) (hn4 : w.cell? ⟨Bn, 0, none⟩ = some (.int .i64 4)) :
    SeqStopsK F n Tryd.prog 42 #[.pointer (some ⟨Bs, 0, none⟩), .pointer (some ⟨Bn, 0, none⟩)] (fun x : {j : Nat // j < q} => #[Value.slice (some ⟨b, off + 4 * x.1, none⟩) 4 4]) (KpC n₀ Bs Bn)
      (fun ys => ys = chs q q) (fun pre => ∃ k, k ≤ q ∧ pre = chs q k) q w := fun l J Jx W hW hJ _ hY h0 =>
  chunk1_in F n h42 hro hn l Bs Bn n₀ b off q cap hreach hcap J Jx (fun pre W1 h => hJ pre W1 W1.drew none h (grown_drewC _ _) (fun r e => by cases e)) hY W
    ((hW.cell (p := ⟨Bs, 0, none⟩) hBs).trans hs) ((hW.cell (p := ⟨Bn, 0, none⟩) hBn).trans hn4) h0
set_option maxRecDepth 100000 in
set_option maxHeartbeats 2000000 in
theorem chunk_in (F : Fence) (n : Nat) (h30 : F.fn 30) (hro : F.round = none) (a : Option Addr) (len cap : Nat) (w : World) :
    CallsIn F n Tryd.prog 30 #[.slice a len cap, .int .i64 4] w fun e w' =>
      e = .returned (.func (.func 42) #[] #[.pointer (some ⟨w.heap.size, 0, none⟩), .pointer (some ⟨w.heap.size + 1, 0, none⟩)]) ∧
      w' = (w.alloc (.cells #[.slice a len cap] 48)).alloc (.cells #[.int .i64 4] 3) := by
  refine callsIn_of_wp Tryd.func30 rfl h30 ?_ hro
  simp only [Tryd.ntmps30, List.size_toArray, List.length_cons, List.length_nil, Nat.reduceAdd, Nat.reduceSub, Array.replicate_succ, Array.replicate_zero, List.push_toArray, List.append_toArray, List.nil_append, List.cons_append]
  gi_wp2
  go_ret
  exact ⟨rfl, rfl⟩
end Go.Proofs.YtjomgppbialeoaaDoor
