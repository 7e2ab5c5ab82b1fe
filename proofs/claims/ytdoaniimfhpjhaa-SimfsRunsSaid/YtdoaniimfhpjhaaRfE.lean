/-
  The document's disk: change, a create.
-/
import Derived.Test.YtdoaniimfhpjhaaRfD
namespace Go.Proofs.Ytdoaniimfhpjhaa
open Go.RowKit
set_option linter.unusedVariables false
set_option linter.unusedSimpArgs false
/-- The blocks of a list of files. -/
def hvB (A : Option Addr) (hs : List HV) (r : Nat) : Prop := A.map (·.block) = some r ∨ ∃ h ∈ hs, h.2.1.map (·.block) = some r
/-- A disk as the document hands it out. -/
def ChPost (w : World) (B0 : Nat) (A : Option Addr) (hs0 : List HV) (L : List FV) (r1 r2 r4 r5 : Int) (r3 : Bool) (e : Ending) (w' : World) : Prop :=
  ∃ A' n' c' hs, e = .returned (.agg #[.slice A' n' c', .int .i64 r1, .int .i64 r2, .bool r3, .int .i64 r4, .int .i64 r5]) ∧ hs.map (·.1) = L ∧ Ext w w' ∧ OwnFl w' B0 A' n' c' hs ∧ ∀ r, hvB A' hs r → hvB A hs0 r ∨ w.heap.size ≤ r
theorem gave_own {w w2 : World} {B0 : Nat} {A' : Option Addr} {c' : Nat} {l : List HV} (hb : B0 ≤ w.heap.size) (h : w2.ownsRow w.heap.size 49 3 (.slice A' l.length c') l.length (flCells l)) (hd : ∀ x ∈ l, w2.ownsRow B0 5 1 (.slice x.2.1 x.1.data.length x.2.2) x.1.data.length (u8s x.1.data)) : OwnFl w2 B0 A' l.length c' l :=
  ⟨own_base h hb, hd⟩
theorem own_new_blk {w : World} {base s n c : Nat} {e : TypeId} {A : Option Addr} {xs : List Value} (h : w.ownsRow base e s (.slice A n c) n xs) {r : Nat} (hr : A.map (·.block) = some r) : base ≤ r := by
  cases A with
  | none => cases hr
  | some a =>
    refine (h.lt r ?_).1
    simpa [Value.ownBlock] using hr
theorem putH_mem {f x : HV} {l : List HV} (h : x ∈ putH f l) : x = f ∨ x ∈ l := by
  induction l with
  | nil => simp [putH] at h; exact .inl h
  | cons y r ih =>
    unfold putH at h
    split at h
    · exact List.mem_cons.1 h
    · rcases List.mem_cons.1 h with h | h
      · exact .inr (by simp [h])
      · rcases ih h with h | h
        · exact .inl h
        · exact .inr (List.mem_cons_of_mem _ h)
theorem ch_end {w wf : World} {B0 B1 n' c' : Nat} {A A' : Option Addr} {hs0 l : List HV} {L : List FV} {r1 r2 r4 r5 : Int} {r3 : Bool} {e : Ending} (he : e = .returned (.agg #[.slice A' n' c', .int .i64 r1, .int .i64 r2, .bool r3, .int .i64 r4, .int .i64 r5])) (hn : n' = l.length) (hL : l.map (·.1) = L) (hx : Ext w wf) (hB : B0 ≤ w.heap.size) (hB1 : w.heap.size ≤ B1)
    (hrow : wf.ownsRow B1 49 3 (.slice A' n' c') n' (flCells l)) (hd : ∀ x ∈ l, (x ∈ hs0 ∧ wf.ownsRow B0 5 1 (.slice x.2.1 x.1.data.length x.2.2) x.1.data.length (u8s x.1.data)) ∨ wf.ownsRow w.heap.size 5 1 (.slice x.2.1 x.1.data.length x.2.2) x.1.data.length (u8s x.1.data) ∨ (wf.ownsRow B0 5 1 (.slice x.2.1 x.1.data.length x.2.2) x.1.data.length (u8s x.1.data) ∧ ∃ y ∈ hs0, y.2.1 = x.2.1)) : ChPost w B0 A hs0 L r1 r2 r4 r5 r3 e wf := by
  refine ⟨A', n', c', l, he, hL, hx, ⟨own_base hrow (by omega), fun x hx => ?_⟩, fun r hr => ?_⟩
  · rcases hd x hx with h | h | h
    · exact h.2
    · exact own_base h hB
    · exact h.1
  · rcases hr with hr | ⟨x, hx, hr⟩
    · exact .inr (Nat.le_trans hB1 (own_new_blk hrow hr))
    · rcases hd x hx with h | h | ⟨_, y, hy, h⟩
      · exact .inl (.inr ⟨x, h.1, hr⟩)
      · exact .inr (own_new_blk h hr)
      · exact .inl (.inr ⟨y, hy, by rw [h]; exact hr⟩)
def opv (K : Int) (nm tg : ByteArray) (Bb : Option Addr) (bl bc : Nat) (N M : Int) (AK : Option Addr) (kl kc : Nat) : Array Value := #[.int .i64 K, .string nm, .string tg, .slice Bb bl bc, .int .i64 N, .int .i64 M, .slice AK kl kc]
theorem dk_zero (w : World) : (Instr.alloc 28 true (.tuple #[])).run Try.prog w = .ok (.pointer (some ⟨w.heap.size, 0, none⟩)) (w.alloc (.cells #[.slice none 0 0, .int .i64 0, .int .i64 0, .bool false, .int .i64 0, .int .i64 0] 28)) := by kernel_rfl
set_option maxRecDepth 100000 in
set_option maxHeartbeats 4000000 in
theorem rchange0 (A : Option Addr) (n c B0 : Nat) (hs0 : List HV) (r1 r2 r4 r5 : Int) (r3 : Bool) (nm tg : ByteArray) (Bb : Option Addr) (bl bc : Nat) (N M : Int) (AK : Option Addr) (kl kc : Nat) (w : World) (hr : OwnFl w B0 A n c hs0) (hB : B0 ≤ w.heap.size) (hn : n ≤ 700) :
    Calls Try.prog 30 #[.agg #[.slice A n c, .int .i64 r1, .int .i64 r2, .bool r3, .int .i64 r4, .int .i64 r5], .agg #[.int .i64 0, .string nm, .string tg, .slice Bb bl bc, .int .i64 N, .int .i64 M, .slice AK kl kc]] w (ChPost w B0 A hs0 (putV ⟨nm, [], 0⟩ (hs0.map (·.1))) r1 r2 r4 r5 r3) := by
  have HR := Lib.hid hr
  have KP := Lib.hid fun W (hx : Ext w W) => rput_any A n c hs0 ⟨nm, [], 0⟩ none 0 W (RdN.of_own (hr.ext hx).1) (by omega)
  unfold GaveH at KP
  dsimp only [List.length_nil] at KP
  obtain ⟨pl, hpl⟩ : ∃ pl, pl = (putH (⟨nm, [], 0⟩, none, 0) hs0).length := ⟨_, rfl⟩
  rw [← hpl] at KP
  have Hpl := Lib.hid hpl
  clear hr hpl
  go_enter Try.func30, Try.ntmps30
  go_upto_region 2 with fail
  obtain ⟨W1, hW1⟩ : ∃ W1, W1 = ((w.alloc (.cells #[.slice A n c, .int .i64 r1, .int .i64 r2, .bool r3, .int .i64 r4, .int .i64 r5] 28)).alloc (.cells #[.int .i64 0, .string nm, .string tg, .slice Bb bl bc, .int .i64 N, .int .i64 M, .slice AK kl kc] 34)).alloc (.cells #[.slice none 0 0, .int .i64 0, .int .i64 0, .bool false, .int .i64 0, .int .i64 0] 28) := ⟨_, rfl⟩
  have b1 : Blk W1 w.heap.size 28 #[.slice A n c, .int .i64 r1, .int .i64 r2, .bool r3, .int .i64 r4, .int .i64 r5] := by rw [hW1]; exact BlkA (BlkA (BlkN rfl))
  have b2 : Blk W1 (w.heap.size + 1 + 1) 28 #[.slice none 0 0, .int .i64 0, .int .i64 0, .bool false, .int .i64 0, .int .i64 0] := by rw [hW1]; exact BlkN (by simp)
  have bo : Blk W1 (w.heap.size + 1) 34 #[.int .i64 0, .string nm, .string tg, .slice Bb bl bc, .int .i64 N, .int .i64 M, .slice AK kl kc] := by rw [hW1]; exact BlkA (BlkN (by simp))
  have hX1 : Ext w W1 := by rw [hW1]; exact ExtA (ExtA (ExtA (Ext.rfl' w)))
  have hz1 : Hid (w.heap.size + 1 + 1 < W1.heap.size) := Lib.hid b2.lt
  rw [← hW1]
  clear hW1
  have d0 := b1.cell 0
  have d1 := bo.cell 1
  go_upto_region 3 with (go_at_call 40; (with_reducible refine (KP.out _ hX1).mono ?_); rintro e w2 ⟨A2, c2, rfl, hx2, ho2⟩; have c0 : w2.cell? ⟨w.heap.size, 0, none⟩ = _ := (BlkE b1 hx2).cell 0; have z0 := (BlkE b1 hx2).frozen 0)
  have q1 := Blk_eq (BlkS (i := 0) (u := .slice A2 pl c2) (BlkE b1 hx2)) (cs' := #[.slice A2 pl c2, .int .i64 r1, .int .i64 r2, .bool r3, .int .i64 r4, .int .i64 r5]) rfl
  have q2 := BlkF (p := ⟨w.heap.size, 0, none⟩) (u := .slice A2 pl c2) (show w.heap.size + 1 + 1 ≠ w.heap.size by omega) (BlkE b2 hx2)
  go_wp2_with (first
    | (with_reducible refine wpL_load_row rfl 28 (.tmp 2) rfl w.heap.size 28 _ 6 rfl q1 disk_wide (dk_size _ _ _ _ _ _ _ _) ?_)
    | (with_reducible refine wpL_store_row rfl 28 (.tmp 4) (.tmp 17) rfl (w.heap.size + 1 + 1) 28 _ _ rfl rfl q2 ((dk_size _ _ _ _ _ _ _ _).trans (dk_size _ _ _ _ _ _ _ _).symm) (dk_one _ _ _ _ _ _ _ _) 6 disk_wide (dk_size _ _ _ _ _ _ _ _) ?_))
  refine bodyPost_ret (res_row rfl _ _ (w.heap.size + 1 + 1) 28 _ 6 rfl (Blk.setRow_ q2) disk_wide rfl) rfl ?_
  have hXf : Ext w ((w2.setCell ⟨w.heap.size, 0, none⟩ (.slice A2 pl c2)).setRow (w.heap.size + 1 + 1) #[.slice A2 pl c2, .int .i64 r1, .int .i64 r2, .bool r3, .int .i64 r4, .int .i64 r5]) := ExtR (by omega) (ExtS (Nat.le_refl _) (hX1.tr hx2))
  refine ch_end (l := putH (⟨nm, [], 0⟩, none, 0) hs0) rfl Hpl.out (put_fv _ _) hXf hB hX1.size (own_setRow hz1.out (own_setCell (Nat.lt_of_le_of_lt (by simp; omega) hz1.out) ho2)) (fun x hx => ?_)
  rcases putH_mem hx with rfl | hx
  · exact .inr (.inl (World.ownsRow_nil _ _ _ _))
  · exact .inl ⟨hx, own_ext hXf (HR.out.2 x hx)⟩
end Go.Proofs.Ytdoaniimfhpjhaa
