/-
  The walk of SimfsRoom.
-/
import Derived.Test.YtjajbbgebblalaaGreatDoorLsC
import Derived.Test.YtjajbbgebblalaaGreatDoorFvB
namespace Go.Proofs.YtjajbbgebblalaaGreatDoor
open Go.RowKit
set_option linter.unusedVariables false
set_option linter.unusedSimpArgs false
open Go.Maps
def sumV (l : List FV) : Nat := (l.map (·.data.length)).sum
theorem sumV_img (d : Dk) : sumV (imgL d) = sumF d.files := by
  rw [← sumF_perm (sortF_perm d.files)]
  unfold sumV imgL sumF
  rw [List.map_map]
  rfl
theorem sumV_snoc (l : List FV) (f : FV) : sumV (l ++ [f]) = sumV l + f.data.length := by simp [sumV]
theorem sumV_take_le (l : List FV) (k : Nat) : sumV (l.take k) ≤ sumV l := by
  unfold sumV
  conv => rhs; rw [← List.take_append_drop k l, List.map_append, List.sum_append]
  omega
theorem createD_room (d : Dk) (nm : ByteArray) : (createD d nm).1.room = d.room := by unfold createD; repeat (first | rfl | exact stepD_room d | split)
theorem appendD_room (d : Dk) (nm : ByteArray) (l : List UInt8) : (appendD d nm l).1.room = d.room := by unfold appendD; repeat (first | rfl | exact stepD_room d | split)
theorem syncD_room (d : Dk) (nm : ByteArray) : (syncD d nm).1.room = d.room := by unfold syncD; repeat (first | rfl | exact stepD_room d | split)
theorem renameD_room (d : Dk) (nm tn : ByteArray) : (renameD d nm tn).1.room = d.room := by unfold renameD; repeat (first | rfl | exact stepD_room d | split)
theorem removeD_room (d : Dk) (nm : ByteArray) : (removeD d nm).1.room = d.room := by unfold removeD; repeat (first | rfl | exact stepD_room d | split)
theorem cutD_room (d : Dk) (nm : ByteArray) (n : Int) : (cutD d nm n).1.room = d.room := by unfold cutD; repeat (first | rfl | exact stepD_room d | split)
theorem readD_room (d : Dk) (nm : ByteArray) (i n : Int) : (readD d nm i n).1.room = d.room := by unfold readD; dsimp only; repeat (first | rfl | split)
theorem callD_room (d : Dk) (o : Op10) : (callD d o).1.room = d.room := by
  unfold callD
  split; exact createD_room _ _
  split; exact appendD_room _ _ _
  split; exact syncD_room _ _
  split; exact renameD_room _ _ _
  split; exact removeD_room _ _
  split; exact cutD_room _ _ _
  split; exact readD_room _ _ _ _
  split; rfl
  split; rfl
  split; rfl
  rfl
theorem callD_bad (d : Dk) (o : Op10) (h0 : (callD d o).2.2.2 ≠ 0) (h3 : (callD d o).2.2.2 ≠ 3) : (callD d o).1.files = d.files := by
  have hs := stepD_files d
  revert h0 h3
  unfold callD
  split
  · unfold createD; repeat (first | (intros; rfl) | (intro a b; exact absurd rfl a) | (intro a b; exact absurd rfl b) | split)
  split
  · unfold appendD; dsimp only; repeat (first | (intros; rfl) | (intro a b; exact absurd rfl a) | (intro a b; exact absurd rfl b) | split)
  split
  · unfold syncD; repeat (first | (intros; rfl) | (intro a b; exact absurd rfl a) | (intro a b; exact absurd rfl b) | split)
  split
  · unfold renameD; repeat (first | (intros; rfl) | (intro a b; exact absurd rfl a) | (intro a b; exact absurd rfl b) | split)
  split
  · unfold removeD; repeat (first | (intros; rfl) | (intro a b; exact absurd rfl a) | (intro a b; exact absurd rfl b) | split)
  split
  · unfold cutD; repeat (first | (intros; rfl) | (intro a b; exact absurd rfl a) | (intro a b; exact absurd rfl b) | split)
  split
  · unfold readD; dsimp only; repeat (first | (intros; rfl) | (intro a b; exact absurd rfl a) | split)
  split
  · intros; rfl
  split
  · intro a b; exact absurd rfl a
  split
  · intro a b; exact absurd rfl a
  intro a b; exact absurd rfl a
theorem OwnFl.turn {F : List Nat} {w w' : World} {base : Nat} {A : Option Addr} {n c : Nat} {hs : List HV} (h : OwnFl w base A n c hs) (ht : Turn F w w') (hF : ∀ r ∈ F, r < base) : OwnFl w' base A n c hs :=
  ⟨ht.own h.1 fun r hr hc => by have := (h.1.lt r hr).1; have := hF r hc; omega, fun g hg => ht.own (h.2 g hg) fun r hr hc => by have := ((h.2 g hg).lt r hr).1; have := hF r hc; omega⟩
def RoomR (W : World) (g b : Nat) (room : Int) (c21 : Value) (wr : World) : Prop :=
  ∃ (k : Nat) (d : Dk) (D : DataW Value) (hs : List HF), c21 = .int .i64 k ∧ DkInv d ∧ d.steps ≤ (k : Nat) ∧ d.room = min (max 0 room) 67108864 ∧ FsX W wr g d b D hs
def SumR10 (l : List FV) (w0 : World) (c13 c38 : Value) (wr : World) : Prop := ∃ j : Nat, c38 = .int .i64 j ∧ j ≤ l.length ∧ c13 = .int .i64 (sumV (l.take j) : Nat) ∧ w0 = wr
end Go.Proofs.YtjajbbgebblalaaGreatDoor
