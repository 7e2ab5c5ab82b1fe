/-
  Saving a manifest by name and by swap, and loading it: the plain law. Whatever the fuse, what stands under the name is the old bytes or the new ones.
-/
/-
  The walks of manifest.Save's four steps.
-/
import Derived.Test.YtjajbbgebblalaaGreatDoorFsT
namespace Go.Proofs.YtjajbbgebblalaaGreatDoor
open Go.RowKit
set_option linter.unusedVariables false
set_option linter.unusedSimpArgs false
def nmT : ByteArray := ⟨#[109, 97, 110, 105, 102, 101, 115, 116, 46, 116, 109, 112]⟩
def nmM : ByteArray := ⟨#[109, 97, 110, 105, 102, 101, 115, 116]⟩
theorem rT : rightB nmT = true := by decide
theorem rM : rightB nmM = true := by decide
theorem tmNe : nmT ≠ nmM ∧ nmM ≠ nmT := by decide
def sv1 (d : Dk) : Dk × Nat := createD d nmT
def sv2 (d : Dk) (b : List UInt8) : Dk × Nat := if (sv1 d).2 ≠ 0 then sv1 d else appendD (sv1 d).1 nmT b
def sv3 (d : Dk) (b : List UInt8) : Dk × Nat := if (sv2 d b).2 ≠ 0 then sv2 d b else syncD (sv2 d b).1 nmT
def sv4 (d : Dk) (b : List UInt8) : Dk × Nat := if (sv3 d b).2 ≠ 0 then sv3 d b else renameD (sv3 d b).1 nmT nmM
theorem sv_inv {d : Dk} (h : DkInv d) (b : List UInt8) : DkInv (sv1 d).1 ∧ DkInv (sv2 d b).1 ∧ DkInv (sv3 d b).1 ∧ DkInv (sv4 d b).1 := by
  have h1 : DkInv (sv1 d).1 := inv_create h _
  have h2 : DkInv (sv2 d b).1 := by unfold sv2; split; exact h1; exact inv_append h1 _ _
  have h3 : DkInv (sv3 d b).1 := by unfold sv3; split; exact h2; exact inv_sync h2 _
  exact ⟨h1, h2, h3, by unfold sv4; split; exact h3; exact inv_rename h3 _ _⟩
theorem sv_steps (d : Dk) (b : List UInt8) : (sv1 d).1.steps ≤ d.steps + 1 ∧ (sv2 d b).1.steps ≤ d.steps + 2 ∧ (sv3 d b).1.steps ≤ d.steps + 3 ∧ (sv4 d b).1.steps ≤ d.steps + 4 := by
  have h1 : (sv1 d).1.steps ≤ d.steps + 1 := (createD_steps _ _).2
  have h2 : (sv2 d b).1.steps ≤ d.steps + 2 := by unfold sv2; split; omega; have := (appD_steps (sv1 d).1 nmT b).2; omega
  have h3 : (sv3 d b).1.steps ≤ d.steps + 3 := by unfold sv3; split; omega; have := (syncD_steps (sv2 d b).1 nmT).2; omega
  exact ⟨h1, h2, h3, by unfold sv4; split; omega; have := (renameD_steps (sv3 d b).1 nmT nmM).2; omega⟩
/-- The bytes l stand under the name, safe. -/
def HasM (d : Dk) (l : List UInt8) : Prop := (⟨nmM, l, l.length⟩ : Fil) ∈ d.files
theorem in_data {d : Dk} {nm : ByteArray} {f : Fil} (h : f ∈ d.files) (g : Fil → Fil) : (if f.name = nm then g f else f) ∈ dataD d nm g := List.mem_map.2 ⟨f, h, rfl⟩
theorem has_create {d : Dk} {f : Fil} (h : f ∈ d.files) : f ∈ (createD d nmT).1.files := by
  unfold createD
  split; exact h
  split; exact h
  split; exact h
  split
  · exact List.mem_append_left _ h
  · dsimp only; rw [stepD_files]; exact h
theorem has_append {d : Dk} {f : Fil} (h : f ∈ d.files) (hn : f.name ≠ nmT) (b : List UInt8) : f ∈ (appendD d nmT b).1.files := by
  unfold appendD
  split; exact h
  split; exact h
  have := in_data (nm := nmT) h (fun f => { f with data := f.data ++ b })
  rw [if_neg hn] at this
  exact this
theorem has_sync {d : Dk} {f : Fil} (h : f ∈ d.files) (hn : f.name ≠ nmT) : f ∈ (syncD d nmT).1.files := by
  unfold syncD
  split; exact h
  split
  · have := in_data (nm := nmT) h (fun f => { f with safe := f.data.length })
    rw [if_neg hn] at this
    exact this
  · dsimp only; rw [stepD_files]; exact h
theorem ok_create {d : Dk} (h : (createD d nmT).2 = 0) : (⟨nmT, [], 0⟩ : Fil) ∈ (createD d nmT).1.files := by
  unfold createD at h ⊢
  split at h; · cases h
  rename_i h1
  rw [if_neg h1]
  split at h; · exact absurd h h1
  rename_i h2
  rw [if_neg h2]
  split at h; · cases h
  rename_i h3
  rw [if_neg h3]
  split at h
  · rename_i h4
    rw [if_pos h4]
    exact List.mem_append_right _ (List.mem_singleton.2 rfl)
  · cases h
theorem ok_append {d : Dk} {x b : List UInt8} {s : Nat} (h : (appendD d nmT b).2 = 0) (hf : (⟨nmT, x, s⟩ : Fil) ∈ d.files) : (⟨nmT, x ++ b, s⟩ : Fil) ∈ (appendD d nmT b).1.files := by
  unfold appendD at h ⊢
  split at h; · rename_i h1; exact absurd h h1
  rename_i h1
  rw [if_neg h1]
  split at h; · cases h
  rename_i h2
  rw [if_neg h2]
  have := in_data (nm := nmT) hf (fun f => { f with data := f.data ++ b })
  rw [if_pos rfl] at this
  exact this
theorem ok_sync {d : Dk} {x : List UInt8} {s : Nat} (h : (syncD d nmT).2 = 0) (hf : (⟨nmT, x, s⟩ : Fil) ∈ d.files) : (⟨nmT, x, x.length⟩ : Fil) ∈ (syncD d nmT).1.files := by
  unfold syncD at h ⊢
  split at h; · rename_i h1; exact absurd h h1
  rename_i h1
  rw [if_neg h1]
  split at h
  · rename_i h2
    rw [if_pos h2]
    have := in_data (nm := nmT) hf (fun f => { f with safe := f.data.length })
    rw [if_pos rfl] at this
    exact this
  · cases h
theorem ok_rename {d : Dk} {x : List UInt8} {s : Nat} (hi : DkInv d) (h : (renameD d nmT nmM).2 = 0) (hf : (⟨nmT, x, s⟩ : Fil) ∈ d.files) : (⟨nmM, x, s⟩ : Fil) ∈ (renameD d nmT nmM).1.files := by
  unfold renameD at h ⊢
  split at h; · cases h
  rename_i h1
  rw [if_neg h1]
  split at h; · rename_i h2; exact absurd h h2
  rename_i h2
  rw [if_neg h2]
  split at h; · cases h
  rename_i h3
  rw [if_neg h3, if_neg tmNe.1]
  dsimp only
  unfold renF getF
  rw [find_mem hi.nd hf]
  exact List.mem_append_right _ (List.mem_singleton.2 rfl)
theorem no_rename {d : Dk} {f : Fil} (h : (renameD d nmT nmM).2 ≠ 0) (hf : f ∈ d.files) : f ∈ (renameD d nmT nmM).1.files := by
  unfold renameD at h ⊢
  split; exact hf
  rename_i h1
  rw [if_neg h1] at h
  split; exact hf
  rename_i h2
  rw [if_neg h2] at h
  split; · dsimp only; rw [stepD_files]; exact hf
  rename_i h3
  rw [if_neg h3, if_neg tmNe.1] at h
  exact absurd rfl h
/-- WHATEVER THE FUSE: told well, the new bytes stand there; else the old ones. -/
theorem sv_swap {d : Dk} {l b : List UInt8} (hi : DkInv d) (h : HasM d l) : ((sv4 d b).2 = 0 → HasM (sv4 d b).1 b) ∧ ((sv4 d b).2 ≠ 0 → HasM (sv4 d b).1 l) := by
  unfold HasM at h ⊢
  obtain ⟨i1, i2, i3, i4⟩ := sv_inv hi b
  have k1 := has_create h
  have k2 : (⟨nmM, l, l.length⟩ : Fil) ∈ (sv2 d b).1.files := by unfold sv2; split; exact k1; exact has_append k1 tmNe.2 b
  have k3 : (⟨nmM, l, l.length⟩ : Fil) ∈ (sv3 d b).1.files := by unfold sv3; split; exact k2; exact has_sync k2 tmNe.2
  have n2 : (sv2 d b).2 = 0 → (⟨nmT, b, 0⟩ : Fil) ∈ (sv2 d b).1.files := fun h0 => by
    unfold sv2 at h0 ⊢
    split at h0; · rename_i h1; exact absurd h0 h1
    rename_i h1
    rw [if_neg h1]
    exact ok_append (x := []) h0 (ok_create (by simpa [sv1] using h1))
  have n3 : (sv3 d b).2 = 0 → (⟨nmT, b, b.length⟩ : Fil) ∈ (sv3 d b).1.files := fun h0 => by
    unfold sv3 at h0 ⊢
    split at h0; · rename_i h1; exact absurd h0 h1
    rename_i h1
    rw [if_neg h1]
    exact ok_sync h0 (n2 (by simpa using h1))
  constructor
  · intro h0
    unfold sv4 at h0 ⊢
    split at h0; · rename_i h1; exact absurd h0 h1
    rename_i h1
    rw [if_neg h1]
    exact ok_rename i3 h0 (n3 (by simpa using h1))
  · intro h0
    unfold sv4 at h0 ⊢
    split
    · exact k3
    · rename_i h1
      rw [if_neg h1] at h0
      exact no_rename h0 k3
/-- With no fuse and room enough: it is told well. -/
theorem sv_free {d : Dk} {b : List UInt8} (hd : d.down = false) (hz : d.fuse = 0) (hf : d.files = [] ∨ ∃ x, d.files = [⟨nmM, x, x.length⟩]) (hu : d.used = (sumF d.files : Nat)) (hr : d.used + (b.length : Nat) ≤ d.room) :
    sv4 d b = ({ d with files := [⟨nmM, b, b.length⟩], used := (b.length : Nat), steps := d.steps + 4 }, 0) := by
  obtain ⟨fs, room, used, steps, read, fuse, down⟩ := d
  dsimp only at hd hz hf hu hr ⊢
  subst hd hz
  have st : ∀ (fs : List Fil) (room used steps read : Int), stepD ⟨fs, room, used, steps, read, 0, false⟩ = (⟨fs, room, used, steps + 1, read, 0, false⟩, true) := fun _ _ _ _ _ => rfl
  have h1 : sv1 ⟨fs, room, used, steps, read, 0, false⟩ = (⟨fs ++ [⟨nmT, [], 0⟩], room, used, steps + 1, read, 0, false⟩, 0) := by
    have ho : openE ⟨fs, room, used, steps, read, 0, false⟩ nmT = 51 := by
      unfold openE
      rw [rT]
      rcases hf with rfl | ⟨x, rfl⟩ <;> simp [tmNe.2]
    unfold sv1 createD
    rw [ho, st]
    rw [if_neg (by decide), if_neg (by decide), if_neg (by rcases hf with rfl | ⟨x, rfl⟩ <;> simp)]
    rfl
  have op : ∀ (y : List UInt8) (s : Nat) (used steps : Int), openE ⟨fs ++ [⟨nmT, y, s⟩], room, used, steps, read, 0, false⟩ nmT = 0 := fun y s used steps => open_in rfl rT (f := ⟨nmT, y, s⟩) (by simp) rfl
  have dt : ∀ (y : List UInt8) (s : Nat) (used steps : Int) (g : Fil → Fil), dataD ⟨fs ++ [⟨nmT, y, s⟩], room, used, steps, read, 0, false⟩ nmT g = fs ++ [g ⟨nmT, y, s⟩] := fun y s used steps g => by
    unfold dataD
    rcases hf with rfl | ⟨x, rfl⟩ <;> simp [tmNe.2]
  have h2 : sv2 ⟨fs, room, used, steps, read, 0, false⟩ b = (⟨fs ++ [⟨nmT, b, 0⟩], room, used + (b.length : Nat), steps + 1 + 1, read, 0, false⟩, 0) := by
    unfold sv2
    rw [h1, if_neg (by simp)]
    unfold appendD
    rw [op, if_neg (by simp), if_neg (by dsimp only; omega), dt, st]
    rfl
  have h3 : sv3 ⟨fs, room, used, steps, read, 0, false⟩ b = (⟨fs ++ [⟨nmT, b, b.length⟩], room, used + (b.length : Nat), steps + 1 + 1 + 1, read, 0, false⟩, 0) := by
    unfold sv3
    rw [h2, if_neg (by simp)]
    unfold syncD
    rw [op, if_neg (by simp), dt, st]
    rfl
  unfold sv4
  rw [h3, if_neg (by simp)]
  unfold renameD
  rw [op, st, if_neg (by rw [rM]; simp), if_neg (by simp), if_neg (by simp), if_neg tmNe.1]
  have hr1 : renF ⟨fs ++ [⟨nmT, b, b.length⟩], room, used + (b.length : Nat), steps + 1 + 1 + 1, read, 0, false⟩ nmT nmM = [⟨nmM, b, b.length⟩] := by
    unfold renF getF
    rcases hf with rfl | ⟨x, rfl⟩ <;> simp [tmNe.1, tmNe.2]
  have hl1 : used + ((b.length : Nat) : Int) - (lenF ⟨fs ++ [⟨nmT, b, b.length⟩], room, used + (b.length : Nat), steps + 1 + 1 + 1, read, 0, false⟩ nmM : Nat) = (b.length : Nat) := by
    subst hu
    unfold lenF getF sumF
    rcases hf with rfl | ⟨x, rfl⟩ <;> simp [tmNe.1, tmNe.2] <;> omega
  rw [hr1, hl1]
  simp [Int.add_assoc]
end Go.Proofs.YtjajbbgebblalaaGreatDoor

namespace Go.Proofs.YtjajbbgebblalaaGreatDoor
open Go.RowKit
set_option linter.unusedVariables false
set_option linter.unusedSimpArgs false
open Go.Maps
section
variable {W w : World} {g b : Nat} {d : Dk} {D : DataW Value} {hs : List HF}
set_option maxRecDepth 100000 in
set_option maxHeartbeats 4000000 in
theorem save1_any (h : FsX W w g d b D hs) (hI : DkInv d) (hst : d.steps ≤ 4611686018427387904) (p : Nat) (hp : Blk w p 31 #[.pointer (some ⟨g, 0, none⟩)]) :
    Calls Tryz.prog 60 #[.pointer (some ⟨p, 0, none⟩)] w fun e w' => e = .returned (.int .i64 ((createD d nmT).2 : Nat)) ∧ FsTo W w w' g b hs (createD d nmT).1 := by
  have K := Lib.hid (createK h hI hst nmT)
  have kp : w.cell? ⟨p, 0, none⟩ = some (.pointer (some ⟨g, 0, none⟩)) := hp.cell 0
  have HP := Lib.hid hp
  clear h hp
  unfold nmT at K ⊢
  go_enter Tryz.func60, Tryz.ntmps60
  go_wp2_with (go_at_call 61; go_loud ((with_reducible refine (K.out).mono ?_); rintro e w1 ⟨rfl, hT⟩))
  go_ret
  exact ⟨rfl, hT⟩
set_option maxRecDepth 100000 in
set_option maxHeartbeats 4000000 in
theorem save2_any (h : FsX W w g d b D hs) (hI : DkInv d) (hst : d.steps ≤ 4611686018427387904) (p q : Nat) (B : Option Addr) (m c : Nat) (l : List UInt8) (hlm : l.length = m) (hm : m ≤ 140737488355328) (hr : ∀ w', Turn (foot g b hs) w w' → Rd w' B m (u8s l))
    (hp : Blk w p 31 #[.pointer (some ⟨g, 0, none⟩)]) (hq : Blk w q 36 #[.slice B m c]) :
    Calls Tryz.prog 62 #[.pointer (some ⟨p, 0, none⟩), .pointer (some ⟨q, 0, none⟩)] w fun e w' => e = .returned (.int .i64 ((appendD d nmT l).2 : Nat)) ∧ FsTo W w w' g b hs (appendD d nmT l).1 := by
  have K := Lib.hid (appendK h hI hst nmT B m c l hlm hm hr)
  have kp : w.cell? ⟨p, 0, none⟩ = some (.pointer (some ⟨g, 0, none⟩)) := hp.cell 0
  have kq : w.cell? ⟨q, 0, none⟩ = some (.slice B m c) := hq.cell 0
  clear h hp hq hlm hr
  unfold nmT at K ⊢
  go_enter Tryz.func62, Tryz.ntmps62
  go_wp2_with (go_at_call 63; go_loud ((with_reducible refine (K.out).mono ?_); rintro e w1 ⟨rfl, hT⟩))
  go_ret
  exact ⟨rfl, hT⟩
set_option maxRecDepth 100000 in
set_option maxHeartbeats 4000000 in
theorem save3_any (h : FsX W w g d b D hs) (hI : DkInv d) (hst : d.steps ≤ 4611686018427387904) (p : Nat) (hp : Blk w p 31 #[.pointer (some ⟨g, 0, none⟩)]) :
    Calls Tryz.prog 64 #[.pointer (some ⟨p, 0, none⟩)] w fun e w' => e = .returned (.int .i64 ((syncD d nmT).2 : Nat)) ∧ FsTo W w w' g b hs (syncD d nmT).1 := by
  have K := Lib.hid (syncK h hI hst nmT)
  have kp : w.cell? ⟨p, 0, none⟩ = some (.pointer (some ⟨g, 0, none⟩)) := hp.cell 0
  clear h hp
  unfold nmT at K ⊢
  go_enter Tryz.func64, Tryz.ntmps64
  go_wp2_with (go_at_call 65; go_loud ((with_reducible refine (K.out).mono ?_); rintro e w1 ⟨rfl, hT⟩))
  go_ret
  exact ⟨rfl, hT⟩
set_option maxRecDepth 100000 in
set_option maxHeartbeats 4000000 in
theorem save4_any (h : FsX W w g d b D hs) (hI : DkInv d) (hst : d.steps ≤ 4611686018427387904) (p : Nat) (hp : Blk w p 31 #[.pointer (some ⟨g, 0, none⟩)]) :
    Calls Tryz.prog 66 #[.pointer (some ⟨p, 0, none⟩)] w fun e w' => e = .returned (.int .i64 ((renameD d nmT nmM).2 : Nat)) ∧ FsTo W w w' g b hs (renameD d nmT nmM).1 := by
  have K := Lib.hid (renameK h hI hst nmT nmM)
  have kp : w.cell? ⟨p, 0, none⟩ = some (.pointer (some ⟨g, 0, none⟩)) := hp.cell 0
  clear h hp
  unfold nmT nmM at K ⊢
  go_enter Tryz.func66, Tryz.ntmps66
  go_wp2_with (go_at_call 67; go_loud ((with_reducible refine (K.out).mono ?_); rintro e w1 ⟨rfl, hT⟩))
  go_ret
  exact ⟨rfl, hT⟩
end
end Go.Proofs.YtjajbbgebblalaaGreatDoor
