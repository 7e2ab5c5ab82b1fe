/-
  A disk in memory; New, step, open.
-/
import Derived.Test.YtdoaniimfhpjhaaFsO
namespace Go.Proofs.Ytdoaniimfhpjhaa
open Go.RowKit
set_option linter.unusedVariables false
set_option linter.unusedSimpArgs false
open Go.Maps
structure Fil where
  name : ByteArray
  data : List UInt8
  safe : Nat
structure Dk where
  files : List Fil
  room : Int
  used : Int
  steps : Int
  read : Int
  fuse : Int
  down : Bool
/-- A file in memory: the file, its block, its bytes' slice. -/
abbrev HF := Fil × Nat × Option Addr × Nat
def fscells (b : Nat) (d : Dk) : Array Value := #[.map (some b), .int .i64 d.room, .int .i64 d.used, .int .i64 d.steps, .int .i64 d.read, .int .i64 d.fuse, .bool d.down]
def filcells (h : HF) : Array Value := #[.slice h.2.2.1 h.1.data.length h.2.2.2, .int .i64 (h.1.safe : Nat)]
def footH (h : HF) : List Nat := h.2.1 :: (match h.2.2.1 with | some a => [a.block] | none => [])
def foot (g b : Nat) (hs : List HF) : List Nat := g :: b :: hs.flatMap footH
def FileAt (w : World) (base : Nat) (h : HF) : Prop :=
  Blk w h.2.1 78 (filcells h) ∧ OwnC w base (.slice h.2.2.1 h.1.data.length h.2.2.2) h.1.data.length h.1.data
structure FsX (W w : World) (g : Nat) (d : Dk) (b : Nat) (D : DataW Value) (hs : List HF) : Prop where
  ext : Ext W w
  blk : Blk w g 57 (fscells b d)
  own : OwnM w b D
  map : MapL D (hs.map fun h => (h.1.name, h.2.1))
  fil : ∀ h ∈ hs, FileAt w W.heap.size h
  dis : (foot g b hs).Nodup
  base : ∀ r ∈ foot g b hs, W.heap.size ≤ r
  lt : ∀ r ∈ foot g b hs, r < w.heap.size
  hsd : hs.map (·.1) = d.files
  cnt : hs.length ≤ 700
/-- Behind a call: the disk d' over blocks of before and new ones; nothing else has turned. -/
def FsTo (W w w' : World) (g b : Nat) (hs : List HF) (d' : Dk) : Prop :=
  ∃ D' hs', FsX W w' g d' b D' hs' ∧ Turn (foot g b hs) w w' ∧ ∀ r ∈ foot g b hs', r ∈ foot g b hs ∨ w.heap.size ≤ r
def stepD (d : Dk) : Dk × Bool :=
  if 0 < d.fuse then (if d.fuse = 1 then ({ d with fuse := 0, down := true }, false) else ({ d with fuse := d.fuse - 1, steps := d.steps + 1 }, true)) else ({ d with steps := d.steps + 1 }, true)
def openE (d : Dk) (nm : ByteArray) : Nat := if d.down then 3 else if rightB nm = false then 50 else if d.files.any (fun f => decide (f.name = nm)) then 0 else 51
/-- Numbers that Go's int bears. -/
def DkNum (d : Dk) : Prop := -4611686018427387904 ≤ d.fuse ∧ d.fuse ≤ 9223372036854775807 ∧ 0 ≤ d.steps ∧ d.steps ≤ 4611686018427387904
def newD (room : Int) : Dk := ⟨[], min (max 0 room) 67108864, 0, 0, 0, 0, false⟩
theorem FsX.refl_to {W w : World} {g b : Nat} {d : Dk} {D : DataW Value} {hs : List HF} (h : FsX W w g d b D hs) : FsTo W w w g b hs d := ⟨D, hs, h, Turn.refl _ _, fun r hr => .inl hr⟩
theorem fsnew_x (room r : Int) (w : World) (hr : r = min (max 0 room) 67108864) : FsX w ((w.alloc (.map #[] 0)).alloc (.cells #[.map (some w.heap.size), .int .i64 r, .int .i64 0, .int .i64 0, .int .i64 0, .int .i64 0, .bool false] 57)) (w.heap.size + 1) (newD room) w.heap.size (.map []) [] := by
  subst hr
  exact { ext := (by repeat (first | with_reducible exact Below.refl _ _ | with_reducible assumption | with_reducible refine ExtD ?_ | with_reducible refine ExtDN ?_ | with_reducible refine ExtA ?_ | (with_reducible refine ExtR ?_ ?_; (first | omega | (dsimp only; omega) | (simp; done) | (simp; omega))) | (with_reducible refine ExtS ?_ ?_; (first | omega | (dsimp only; omega) | (simp; done) | (simp; omega))) | with_reducible refine Ext.tr ?_ (by with_reducible assumption))), blk := BlkN (by simp), own := ⟨0, by omega, World.ownsMap.alloc (World.ownsMap_made w _ _ _) _⟩, map := map_nil, fil := fun h hh => (by cases hh), dis := by simp [foot], base := fun r hr => by simp [foot] at hr; omega, lt := fun r hr => by simp [foot] at hr; simp; omega, hsd := rfl, cnt := by simp }
theorem grown_setF {a w : World} {g i : Nat} {v : Value} (h : a.grownBy w (some g)) : a.grownBy (w.setCell ⟨g, i, none⟩ v) (some g) := grown_set h v
theorem grown_rfl (w : World) (g : Nat) : w.grownBy w (some g) := ⟨rfl, rfl, rfl, Nat.le_refl _, fun _ _ _ => rfl⟩
set_option maxRecDepth 100000 in
set_option maxHeartbeats 2000000 in
theorem fsnew_any (room : Int) (w : World) : Calls Try.prog 6 #[.int .i64 room] w fun e w' => ∃ g b, e = .returned (ptrV g) ∧ FsX w w' g (newD room) b (.map []) [] := by
  have hmk := @run_makeMap Try.prog
  go_enter Try.func6, Try.ntmps6
  go_wp2_with fail
  all_goals
    go_ret
    refine ⟨w.heap.size + 1, rfl, w.heap.size, fsnew_x room _ w ?_⟩
    omega
set_option maxRecDepth 100000 in
set_option maxHeartbeats 2000000 in
theorem step_any (g b : Nat) (d : Dk) (w : World) (hb : Blk w g 57 (fscells b d)) (hd : DkNum d) :
    Calls Try.prog 45 #[ptrV g] w fun e w' => e = .returned (.bool (stepD d).2) ∧ Blk w' g 57 (fscells b (stepD d).1) ∧ w.grownBy w' (some g) := by
  obtain ⟨h1, h2, h3, h4⟩ := hd
  unfold ptrV
  have k5 : w.cell? ⟨g, 5, none⟩ = some (.int .i64 d.fuse) := hb.cell 5
  have k3 : w.cell? ⟨g, 3, none⟩ = some (.int .i64 d.steps) := hb.cell 3
  have k6 : w.cell? ⟨g, 6, none⟩ = some (.bool d.down) := hb.cell 6
  have f5 := hb.frozen 5
  have f3 := hb.frozen 3
  have f6 := hb.frozen 6
  have HB := Lib.hid hb
  clear hb
  by_cases hf : 0 < d.fuse
  · have hs1 : decide (0 < d.fuse) = true := by simpa using hf
    by_cases hf1 : d.fuse = 1
    · have hst : stepD d = ({ d with fuse := 0, down := true }, false) := by unfold stepD; rw [if_pos hf, if_pos hf1]
      rw [hst]
      rw [hf1] at k5
      clear hs1 hf hf1 hst h1 h2
      go_enter Try.func45, Try.ntmps45
      go_wp2_with fail
      go_ret
      exact ⟨rfl, Blk_eq (BlkS (BlkS HB.out)) (by simp [fscells]), grown_setF (grown_setF (grown_rfl w g))⟩
    · have hst : stepD d = ({ d with fuse := d.fuse - 1, steps := d.steps + 1 }, true) := by unfold stepD; rw [if_pos hf, if_neg hf1]
      rw [hst]
      have hs2 : ((d.fuse - 1 : Int) == 0) = false := by simp; omega
      clear hst
      go_enter Try.func45, Try.ntmps45
      go_wp2_with fail
      go_ret
      exact ⟨rfl, Blk_eq (BlkS (BlkS HB.out)) (by simp [fscells]), grown_setF (grown_setF (grown_rfl w g))⟩
  · have hs1 : decide (0 < d.fuse) = false := by simpa using hf
    have hst : stepD d = ({ d with steps := d.steps + 1 }, true) := by unfold stepD; rw [if_neg hf]
    rw [hst]
    clear hst
    go_enter Try.func45, Try.ntmps45
    go_wp2_with fail
    go_ret
    exact ⟨rfl, Blk_eq (BlkS HB.out) (by simp [fscells]), grown_setF (grown_rfl w g)⟩
end Go.Proofs.Ytdoaniimfhpjhaa
