/-
  A disk in memory; New, step, open.
-/
/-
  A disk in memory; open, Create, Used, Free.
-/
/-
  A disk in memory; Create, Used, Free.
-/
import Derived.Test.YtdoaniimfhpjhaaDoorFsR
namespace Go.Proofs.YtdoaniimfhpjhaaDoor
open Go.RowKit
set_option linter.unusedVariables false
set_option linter.unusedSimpArgs false
open Go.Maps
structure Fil where
  name : ByteArray
  data : List UInt8
  safe : Nat
structure Dk where
  files : List Fil
  room : Int
  used : Int
  steps : Int
  read : Int
  fuse : Int
  down : Bool
/-- A file in memory: the file, its block, its bytes' slice. -/
abbrev HF := Fil × Nat × Option Addr × Nat
def fscells (b : Nat) (d : Dk) : Array Value := #[.map (some b), .int .i64 d.room, .int .i64 d.used, .int .i64 d.steps, .int .i64 d.read, .int .i64 d.fuse, .bool d.down]
def filcells (h : HF) : Array Value := #[.slice h.2.2.1 h.1.data.length h.2.2.2, .int .i64 (h.1.safe : Nat)]
def footH (h : HF) : List Nat := h.2.1 :: (match h.2.2.1 with | some a => [a.block] | none => [])
def foot (g b : Nat) (hs : List HF) : List Nat := g :: b :: hs.flatMap footH
def FileAt (w : World) (base : Nat) (h : HF) : Prop :=
  Blk w h.2.1 61 (filcells h) ∧ OwnC w base (.slice h.2.2.1 h.1.data.length h.2.2.2) h.1.data.length h.1.data
structure FsX (W w : World) (g : Nat) (d : Dk) (b : Nat) (D : DataW Value) (hs : List HF) : Prop where
  ext : Ext W w
  blk : Blk w g 48 (fscells b d)
  own : OwnM w b D
  map : MapL D (hs.map fun h => (h.1.name, h.2.1))
  fil : ∀ h ∈ hs, FileAt w W.heap.size h
  dis : (foot g b hs).Nodup
  base : ∀ r ∈ foot g b hs, W.heap.size ≤ r
  lt : ∀ r ∈ foot g b hs, r < w.heap.size
  hsd : hs.map (·.1) = d.files
  cnt : hs.length ≤ 700
/-- Behind a call: the disk d' over blocks of before and new ones; nothing else has turned. -/
def FsTo (W w w' : World) (g b : Nat) (hs : List HF) (d' : Dk) : Prop :=
  ∃ D' hs', FsX W w' g d' b D' hs' ∧ Turn (foot g b hs) w w' ∧ ∀ r ∈ foot g b hs', r ∈ foot g b hs ∨ w.heap.size ≤ r
def stepD (d : Dk) : Dk × Bool :=
  if 0 < d.fuse then (if d.fuse = 1 then ({ d with fuse := 0, down := true }, false) else ({ d with fuse := d.fuse - 1, steps := d.steps + 1 }, true)) else ({ d with steps := d.steps + 1 }, true)
def openE (d : Dk) (nm : ByteArray) : Nat := if d.down then 3 else if rightB nm = false then 50 else if d.files.any (fun f => decide (f.name = nm)) then 0 else 51
/-- Numbers that Go's int bears. -/
def DkNum (d : Dk) : Prop := -4611686018427387904 ≤ d.fuse ∧ d.fuse ≤ 9223372036854775807 ∧ 0 ≤ d.steps ∧ d.steps ≤ 4611686018427387904
def newD (room : Int) : Dk := ⟨[], min (max 0 room) 67108864, 0, 0, 0, 0, false⟩
theorem FsX.refl_to {W w : World} {g b : Nat} {d : Dk} {D : DataW Value} {hs : List HF} (h : FsX W w g d b D hs) : FsTo W w w g b hs d := ⟨D, hs, h, Turn.refl _ _, fun r hr => .inl hr⟩
theorem fsnew_x (room r : Int) (w : World) (hr : r = min (max 0 room) 67108864) : FsX w ((w.alloc (.map #[] 0)).alloc (.cells #[.map (some w.heap.size), .int .i64 r, .int .i64 0, .int .i64 0, .int .i64 0, .int .i64 0, .bool false] 48)) (w.heap.size + 1) (newD room) w.heap.size (.map []) [] := by
  subst hr
  exact { ext := (by repeat (first | with_reducible exact Below.refl _ _ | with_reducible assumption | with_reducible refine ExtD ?_ | with_reducible refine ExtDN ?_ | with_reducible refine ExtA ?_ | (with_reducible refine ExtR ?_ ?_; (first | omega | (dsimp only; omega) | (simp; done) | (simp; omega))) | (with_reducible refine ExtS ?_ ?_; (first | omega | (dsimp only; omega) | (simp; done) | (simp; omega))) | with_reducible refine Ext.tr ?_ (by with_reducible assumption))), blk := BlkN (by simp), own := ⟨0, by omega, World.ownsMap.alloc (World.ownsMap_made w _ _ _) _⟩, map := map_nil, fil := fun h hh => (by cases hh), dis := by simp [foot], base := fun r hr => by simp [foot] at hr; omega, lt := fun r hr => by simp [foot] at hr; simp; omega, hsd := rfl, cnt := by simp }
theorem grown_setF {a w : World} {g i : Nat} {v : Value} (h : a.grownBy w (some g)) : a.grownBy (w.setCell ⟨g, i, none⟩ v) (some g) := grown_set h v
theorem grown_rfl (w : World) (g : Nat) : w.grownBy w (some g) := ⟨rfl, rfl, rfl, Nat.le_refl _, fun _ _ _ => rfl⟩
set_option maxRecDepth 100000 in
set_option maxHeartbeats 2000000 in
theorem fsnew_any (room : Int) (w : World) : Calls Tryd.prog 5 #[.int .i64 room] w fun e w' => ∃ g b, e = .returned (ptrV g) ∧ FsX w w' g (newD room) b (.map []) [] := by
  have hmk := @run_makeMap Tryd.prog
  go_enter Tryd.func5, Tryd.ntmps5
  go_wp2_with fail
  all_goals
    go_ret
    refine ⟨w.heap.size + 1, rfl, w.heap.size, fsnew_x room _ w ?_⟩
    omega
set_option maxRecDepth 100000 in
set_option maxHeartbeats 2000000 in
theorem step_any (g b : Nat) (d : Dk) (w : World) (hb : Blk w g 48 (fscells b d)) (hd : DkNum d) :
    Calls Tryd.prog 37 #[ptrV g] w fun e w' => e = .returned (.bool (stepD d).2) ∧ Blk w' g 48 (fscells b (stepD d).1) ∧ w.grownBy w' (some g) := by
  obtain ⟨h1, h2, h3, h4⟩ := hd
  unfold ptrV
  have k5 : w.cell? ⟨g, 5, none⟩ = some (.int .i64 d.fuse) := hb.cell 5
  have k3 : w.cell? ⟨g, 3, none⟩ = some (.int .i64 d.steps) := hb.cell 3
  have k6 : w.cell? ⟨g, 6, none⟩ = some (.bool d.down) := hb.cell 6
  have f5 := hb.frozen 5
  have f3 := hb.frozen 3
  have f6 := hb.frozen 6
  have HB := Lib.hid hb
  clear hb
  by_cases hf : 0 < d.fuse
  · have hs1 : decide (0 < d.fuse) = true := by simpa using hf
    by_cases hf1 : d.fuse = 1
    · have hst : stepD d = ({ d with fuse := 0, down := true }, false) := by unfold stepD; rw [if_pos hf, if_pos hf1]
      rw [hst]
      rw [hf1] at k5
      clear hs1 hf hf1 hst h1 h2
      go_enter Tryd.func37, Tryd.ntmps37
      go_wp2_with fail
      go_ret
      exact ⟨rfl, Blk_eq (BlkS (BlkS HB.out)) (by simp [fscells]), grown_setF (grown_setF (grown_rfl w g))⟩
    · have hst : stepD d = ({ d with fuse := d.fuse - 1, steps := d.steps + 1 }, true) := by unfold stepD; rw [if_pos hf, if_neg hf1]
      rw [hst]
      have hs2 : ((d.fuse - 1 : Int) == 0) = false := by simp; omega
      clear hst
      go_enter Tryd.func37, Tryd.ntmps37
      go_wp2_with fail
      go_ret
      exact ⟨rfl, Blk_eq (BlkS (BlkS HB.out)) (by simp [fscells]), grown_setF (grown_setF (grown_rfl w g))⟩
  · have hs1 : decide (0 < d.fuse) = false := by simpa using hf
    have hst : stepD d = ({ d with steps := d.steps + 1 }, true) := by unfold stepD; rw [if_neg hf]
    rw [hst]
    clear hst
    go_enter Tryd.func37, Tryd.ntmps37
    go_wp2_with fail
    go_ret
    exact ⟨rfl, Blk_eq (BlkS HB.out) (by simp [fscells]), grown_setF (grown_rfl w g)⟩
end Go.Proofs.YtdoaniimfhpjhaaDoor

namespace Go.Proofs.YtdoaniimfhpjhaaDoor
open Go.RowKit
set_option linter.unusedVariables false
set_option linter.unusedSimpArgs false
open Go.Maps
theorem FileAt.turn {F : List Nat} {w w' : World} {base : Nat} {h : HF} (hf : FileAt w base h) (ht : Turn F w w') (hn : ∀ r ∈ footH h, r ∉ F) : FileAt w' base h := by
  refine ⟨ht.blk hf.1 (hn _ (by simp [footH])), ht.ownC hf.2 fun r hr => hn r ?_⟩
  cases hA : h.2.2.1 with
  | none => rw [hA] at hr; simp [Value.ownBlock] at hr
  | some a => rw [hA] at hr; simp [Value.ownBlock] at hr; simp [footH, hA, hr]
theorem FileAt.ext {w w' : World} {base : Nat} {h : HF} (hf : FileAt w base h) (hx : Ext w w') : FileAt w' base h := hf.turn (hx.turn []) (fun _ _ hc => by cases hc)
theorem FsX.ext_ {W w w' : World} {g b : Nat} {d : Dk} {D : DataW Value} {hs : List HF} (h : FsX W w g d b D hs) (hx : Ext w w') : FsX W w' g d b D hs :=
  { ext := h.ext.tr hx, blk := hx.blk h.blk, own := (by obtain ⟨n, hn, ho⟩ := h.own; exact ⟨n, hn, (hx.turn []).map ho (by simp)⟩), map := h.map, fil := fun f hf => (h.fil f hf).ext hx, dis := h.dis, base := h.base, lt := fun r hr => Nat.lt_of_lt_of_le (h.lt r hr) hx.size, hsd := h.hsd, cnt := h.cnt }
theorem rightB_size {s : ByteArray} (h : rightB s = true) : s.size ≤ 24 := by
  unfold rightB at h
  simp only [Bool.and_eq_true, decide_eq_true_eq] at h
  exact h.1.2
set_option maxRecDepth 100000 in
set_option maxHeartbeats 2000000 in
theorem open_any (W w : World) (g b : Nat) (d : Dk) (D : DataW Value) (hs : List HF) (nm : ByteArray) (h : FsX W w g d b D hs) :
    Calls Tryd.prog 36 #[ptrV g, .string nm] w fun e w' => ∃ v, e = .returned (.tuple #[v, .int .i64 (openE d nm : Nat)]) ∧ Ext w w' ∧ (openE d nm = 0 → ∃ f ∈ hs, f.1.name = nm ∧ v = ptrV f.2.1) := by
  unfold ptrV
  have k6 : w.cell? ⟨g, 6, none⟩ = some (.bool d.down) := h.blk.cell 6
  have HF := Lib.hid h
  have R := Lib.hid (right_any nm)
  clear h
  by_cases hd : d.down = true
  · have ho : openE d nm = 3 := by unfold openE; rw [if_pos hd]
    rw [ho]
    rw [hd] at k6
    clear ho
    go_enter Tryd.func36, Tryd.ntmps36
    go_wp2_with fail
    go_ret2
    exact ⟨_, rfl, (by repeat (first | with_reducible exact Below.refl _ _ | with_reducible assumption | with_reducible refine ExtD ?_ | with_reducible refine ExtDN ?_ | with_reducible refine ExtA ?_ | (with_reducible refine ExtR ?_ ?_; (first | omega | (dsimp only; omega) | (simp; done) | (simp; omega))) | (with_reducible refine ExtS ?_ ?_; (first | omega | (dsimp only; omega) | (simp; done) | (simp; omega))) | with_reducible refine Ext.tr ?_ (by with_reducible assumption))), fun h => by cases h⟩
  · have hd' : d.down = false := by simpa using hd
    rw [hd'] at k6
    by_cases hr : rightB nm = false
    · have ho : openE d nm = 50 := by unfold openE; rw [if_neg hd, if_pos hr]
      rw [ho]
      rw [hr] at R
      clear ho
      go_enter Tryd.func36, Tryd.ntmps36
      go_wp2_with (go_at_call 38; (with_reducible refine (R.out _).mono ?_); rintro e w1 ⟨rfl, hx1⟩)
      go_ret2
      exact ⟨_, rfl, (by repeat (first | with_reducible exact Below.refl _ _ | with_reducible assumption | with_reducible refine ExtD ?_ | with_reducible refine ExtDN ?_ | with_reducible refine ExtA ?_ | (with_reducible refine ExtR ?_ ?_; (first | omega | (dsimp only; omega) | (simp; done) | (simp; omega))) | (with_reducible refine ExtS ?_ ?_; (first | omega | (dsimp only; omega) | (simp; done) | (simp; omega))) | with_reducible refine Ext.tr ?_ (by with_reducible assumption))), fun h => by cases h⟩
    · have hr' : rightB nm = true := by simpa using hr
      have hsz := rightB_size hr'
      rw [hr'] at R
      by_cases hin : (d.files.any fun f => decide (f.name = nm)) = true
      · have ho : openE d nm = 0 := by unfold openE; rw [if_neg hd, if_neg hr, if_pos hin]
        rw [ho]
        obtain ⟨f, hf, hfn⟩ : ∃ f ∈ hs, f.1.name = nm := by
          rw [← HF.out.hsd, List.any_eq_true] at hin
          obtain ⟨f, hf, hn⟩ := hin
          obtain ⟨h, hh, rfl⟩ := List.mem_map.1 hf
          exact ⟨h, hh, by simpa using hn⟩
        have Hl := Lib.hid fun (w1 : World) (hx : Ext w w1) => look_hit (HF.out.ext_ hx).own HF.out.map (nm := nm) (p := f.2.1) (List.mem_map.2 ⟨f, hf, by rw [hfn]⟩) (by simp only [maxLen]; omega)
        have Hf := Lib.hid hf
        unfold ptrV at Hl
        have k0 := Lib.hid fun (w1 : World) (hx : Ext w w1) => (HF.out.ext_ hx).blk.cell 0
        clear ho hin hf
        go_enter Tryd.func36, Tryd.ntmps36
        go_wp2_with (go_at_call 38; (with_reducible refine (R.out _).mono ?_); rintro e w1 ⟨rfl, hx1⟩; have k0 : w1.cell? ⟨g, 0, none⟩ = some (.map (some b)) := k0.out w1 hx1; have hl := Hl.out w1 hx1)
        go_ret2
        exact ⟨_, rfl, (by repeat (first | with_reducible exact Below.refl _ _ | with_reducible assumption | with_reducible refine ExtD ?_ | with_reducible refine ExtDN ?_ | with_reducible refine ExtA ?_ | (with_reducible refine ExtR ?_ ?_; (first | omega | (dsimp only; omega) | (simp; done) | (simp; omega))) | (with_reducible refine ExtS ?_ ?_; (first | omega | (dsimp only; omega) | (simp; done) | (simp; omega))) | with_reducible refine Ext.tr ?_ (by with_reducible assumption))), fun _ => ⟨f, Hf.out, hfn, rfl⟩⟩
      · have ho : openE d nm = 51 := by unfold openE; rw [if_neg hd, if_neg hr, if_neg hin]
        rw [ho]
        have Hl := Lib.hid fun (w1 : World) (hx : Ext w w1) => look_miss (HF.out.ext_ hx).own HF.out.map (nm := nm) (fun x hx hc => hin (by
          obtain ⟨f, hf, rfl⟩ := List.mem_map.1 hx
          rw [← HF.out.hsd, List.any_eq_true]
          exact ⟨f.1, List.mem_map.2 ⟨f, hf, rfl⟩, by simpa using hc⟩)) (by simp only [maxLen]; omega)
        have k0 := Lib.hid fun (w1 : World) (hx : Ext w w1) => (HF.out.ext_ hx).blk.cell 0
        clear ho hin
        go_enter Tryd.func36, Tryd.ntmps36
        go_wp2_with (go_at_call 38; (with_reducible refine (R.out _).mono ?_); rintro e w1 ⟨rfl, hx1⟩; have k0 : w1.cell? ⟨g, 0, none⟩ = some (.map (some b)) := k0.out w1 hx1; have hl := Hl.out w1 hx1)
        go_ret2
        exact ⟨_, rfl, (by repeat (first | with_reducible exact Below.refl _ _ | with_reducible assumption | with_reducible refine ExtD ?_ | with_reducible refine ExtDN ?_ | with_reducible refine ExtA ?_ | (with_reducible refine ExtR ?_ ?_; (first | omega | (dsimp only; omega) | (simp; done) | (simp; omega))) | (with_reducible refine ExtS ?_ ?_; (first | omega | (dsimp only; omega) | (simp; done) | (simp; omega))) | with_reducible refine Ext.tr ?_ (by with_reducible assumption))), fun h => by cases h⟩
end Go.Proofs.YtdoaniimfhpjhaaDoor

namespace Go.Proofs.YtdoaniimfhpjhaaDoor
open Go.RowKit
set_option linter.unusedVariables false
set_option linter.unusedSimpArgs false
open Go.Maps
theorem foot_g {g b : Nat} {hs : List HF} : g ∈ foot g b hs := by simp [foot]
theorem foot_b {g b : Nat} {hs : List HF} : b ∈ foot g b hs := by simp [foot]
theorem foot_h {g b r : Nat} {hs : List HF} {h : HF} (hh : h ∈ hs) (hr : r ∈ footH h) : r ∈ foot g b hs := by
  simp only [foot, List.mem_cons, List.mem_flatMap]
  exact .inr (.inr ⟨h, hh, hr⟩)
theorem foot_gb {g b : Nat} {hs : List HF} (h : (foot g b hs).Nodup) : g ≠ b := by
  simp [foot] at h
  exact h.1.1
theorem foot_gh {g b r : Nat} {hs : List HF} {h : HF} (hd : (foot g b hs).Nodup) (hh : h ∈ hs) (hr : r ∈ footH h) : r ≠ g ∧ r ≠ b := by
  have hm : r ∈ hs.flatMap footH := List.mem_flatMap.2 ⟨h, hh, hr⟩
  unfold foot at hd
  rw [List.nodup_cons, List.nodup_cons] at hd
  refine ⟨fun hc => hd.1 ?_, fun hc => hd.2.1 ?_⟩
  · subst hc; exact List.mem_cons_of_mem _ hm
  · subst hc; exact hm
/-- Only the disk's own cells turn. -/
theorem FsX.cells {W w w' : World} {g b : Nat} {d d' : Dk} {D : DataW Value} {hs : List HF} (h : FsX W w g d b D hs) (hb : Blk w' g 48 (fscells b d')) (hg : w.grownBy w' (some g)) (hf : d'.files = d.files) : FsX W w' g d' b D hs := by
  have ht : Turn [g] w w' := grown_turn hg (fun r hr => by injection hr with hr; subst hr; exact .inl (by simp))
  exact { ext := ht.ext h.ext (fun r hr => by simp at hr; subst hr; exact h.base _ foot_g), blk := hb, own := (by obtain ⟨n, hn, ho⟩ := h.own; exact ⟨n, hn, ht.map ho (by simpa using fun hc => foot_gb h.dis hc.symm)⟩), map := h.map, fil := fun f hm => (h.fil f hm).turn ht (fun r hr => by simpa using (foot_gh h.dis hm hr).1), dis := h.dis, base := h.base, lt := fun r hr => Nat.lt_of_lt_of_le (h.lt r hr) hg.size, hsd := by rw [h.hsd, hf], cnt := h.cnt }
theorem FsX.cells_to {W w w' : World} {g b : Nat} {d d' : Dk} {D : DataW Value} {hs : List HF} (h : FsX W w g d b D hs) (hb : Blk w' g 48 (fscells b d')) (hg : w.grownBy w' (some g)) (hf : d'.files = d.files) : FsTo W w w' g b hs d' :=
  ⟨D, hs, h.cells hb hg hf, grown_turn hg (fun r hr => by injection hr with hr; subst hr; exact .inl foot_g), fun r hr => .inl hr⟩
theorem FsX.ext_to {W w w' : World} {g b : Nat} {d : Dk} {D : DataW Value} {hs : List HF} (h : FsX W w g d b D hs) (hx : Ext w w') : FsTo W w w' g b hs d := ⟨D, hs, h.ext_ hx, hx.turn _, fun r hr => .inl hr⟩
theorem FsTo.pre {W w w' w2 : World} {g b : Nat} {d : Dk} {hs : List HF} (h : FsTo W w' w2 g b hs d) (hx : Ext w w') : FsTo W w w2 g b hs d := by
  obtain ⟨D, hs', h1, h2, h3⟩ := h
  exact ⟨D, hs', h1, (hx.turn _).tr h2, fun r hr => (h3 r hr).imp id fun hk => Nat.le_trans hx.size hk⟩
theorem stepD_files (d : Dk) : (stepD d).1.files = d.files := by
  unfold stepD
  split
  · split <;> rfl
  · rfl
def createD (d : Dk) (nm : ByteArray) : Dk × Nat :=
  if openE d nm = 0 then (d, 52) else if openE d nm ≠ 51 then (d, openE d nm) else if 700 ≤ d.files.length then (d, 53) else
  if (stepD d).2 = true then ({ (stepD d).1 with files := d.files ++ [⟨nm, [], 0⟩] }, 0) else ((stepD d).1, 3)
theorem openE_miss {d : Dk} {nm : ByteArray} (h : openE d nm = 51) : rightB nm = true ∧ (d.files.any fun f => decide (f.name = nm)) = false := by
  unfold openE at h
  split at h
  · omega
  · split at h
    · omega
    · split at h
      · omega
      · rename_i h1 h2 h3
        exact ⟨by simpa using h2, by simpa using h3⟩
/-- A new file's block, and its name in the map. -/
theorem fs_new {W w w3 : World} {g b : Nat} {d : Dk} {D : DataW Value} {hs : List HF} {nm : ByteArray} (h : FsX W w g d b D hs) (hn : (d.files.any fun f => decide (f.name = nm)) = false) (hc : hs.length < 700)
    (ho : OwnM w3 b (D.put (nmLit nm) (.held (ptrV w.heap.size)))) (hg : (w.alloc (.cells #[.slice none 0 0, .int .i64 0] 61)).grownBy w3 (some b)) : FsTo W w w3 g b hs { d with files := d.files ++ [⟨nm, [], 0⟩] } := by
  have ht : Turn [b] w w3 := ((ExtA (Ext.rfl' w)).turn [b]).tr (grown_turn hg (fun r hr => by injection hr with hr; subst hr; exact .inl (by simp)))
  have hnx : ∀ x ∈ hs.map (fun h => (h.1.name, h.2.1)), x.1 ≠ nm := fun x hx hc => by
    obtain ⟨f, hf, rfl⟩ := List.mem_map.1 hx
    rw [← h.hsd, List.any_eq_false] at hn
    exact hn f.1 (List.mem_map.2 ⟨f, hf, rfl⟩) (by simpa using hc)
  have hbl := h.lt _ foot_b
  have hsz : w.heap.size + 1 ≤ w3.heap.size := by have := hg.size; simpa using this
  have hfo : foot g b (hs ++ [(⟨nm, [], 0⟩, w.heap.size, none, 0)]) = foot g b hs ++ [w.heap.size] := by simp [foot, footH]
  refine ⟨_, hs ++ [(⟨nm, [], 0⟩, w.heap.size, none, 0)], { ext := ht.ext h.ext (fun r hr => by simp at hr; subst hr; exact h.base _ foot_b), blk := ht.blk h.blk (by simpa using foot_gb h.dis), own := ho, map := ?_, fil := fun f hf => ?_, dis := ?_, base := fun r hr => ?_, lt := fun r hr => ?_, hsd := by simp [h.hsd], cnt := by simp; omega }, ht.mono (fun r hr => by simp at hr; subst hr; exact .inl foot_b), fun r hr => ?_⟩
  · rw [List.map_append]
    exact map_put h.map nm _ hnx
  · rcases List.mem_append.1 hf with hf | hf
    · exact (h.fil f hf).turn ht (fun r hr => by simpa using (foot_gh h.dis hf hr).2)
    · simp only [List.mem_singleton] at hf
      subst hf
      exact ⟨BlkG (BlkN rfl) hg (by simp; omega), OwnC.nil_ _ _⟩
  · rw [hfo, List.nodup_append]
    refine ⟨h.dis, by simp, fun a ha c hc => ?_⟩
    simp only [List.mem_singleton] at hc
    subst hc
    have := h.lt a ha
    omega
  · rw [hfo] at hr
    rcases List.mem_append.1 hr with hr | hr
    · exact h.base r hr
    · simp at hr; subst hr; exact h.ext.size
  · rw [hfo] at hr
    rcases List.mem_append.1 hr with hr | hr
    · have := h.lt r hr; omega
    · simp at hr; omega
  · rw [hfo] at hr
    rcases List.mem_append.1 hr with hr | hr
    · exact .inl hr
    · simp at hr; exact .inr (by omega)
theorem openE_le (d : Dk) (nm : ByteArray) : openE d nm ≤ 51 := by
  unfold openE
  repeat (first | omega | split)
set_option maxRecDepth 100000 in
set_option maxHeartbeats 2000000 in
theorem create_any (W w : World) (g b : Nat) (d : Dk) (D : DataW Value) (hs : List HF) (nm : ByteArray) (h : FsX W w g d b D hs) (hd : DkNum d) :
    Calls Tryd.prog 18 #[ptrV g, .string nm] w fun e w' => e = .returned (.int .i64 ((createD d nm).2 : Nat)) ∧ FsTo W w w' g b hs (createD d nm).1 := by
  have HF := Lib.hid h
  have KO := Lib.hid (open_any W w g b d D hs nm h)
  have hle := openE_le d nm
  have hfl : hs.length = d.files.length := by rw [← h.hsd, List.length_map]
  unfold ptrV at KO ⊢
  clear h
  by_cases h0 : openE d nm = 0
  · have hc : createD d nm = (d, 52) := by unfold createD; rw [if_pos h0]
    rw [hc]
    rw [h0] at KO
    clear hc
    go_enter Tryd.func18, Tryd.ntmps18
    go_wp2_with (go_at_call 36; (with_reducible refine (KO.out).mono ?_); rintro e w1 ⟨v, rfl, hx1, -⟩)
    go_ret
    exact ⟨rfl, HF.out.ext_to (by repeat (first | with_reducible exact Below.refl _ _ | with_reducible assumption | with_reducible refine ExtD ?_ | with_reducible refine ExtDN ?_ | with_reducible refine ExtA ?_ | (with_reducible refine ExtR ?_ ?_; (first | omega | (dsimp only; omega) | (simp; done) | (simp; omega))) | (with_reducible refine ExtS ?_ ?_; (first | omega | (dsimp only; omega) | (simp; done) | (simp; omega))) | with_reducible refine Ext.tr ?_ (by with_reducible assumption)))⟩
  · by_cases h51 : openE d nm = 51
    · have hms := openE_miss h51
      have hsz := rightB_size hms.1
      rw [h51] at KO
      have k0 := Lib.hid fun (w1 : World) (hx : Ext w w1) => (HF.out.ext_ hx).blk.cell 0
      have kl := Lib.hid fun (w1 : World) (hx : Ext w w1) => map_len (HF.out.ext_ hx).own HF.out.map
      rw [List.length_map] at kl
      by_cases h7 : 700 ≤ d.files.length
      · have hc : createD d nm = (d, 53) := by unfold createD; rw [if_neg h0, if_neg (by omega), if_pos h7]
        rw [hc]
        have d7 : decide ((700 : Int) ≤ (hs.length : Nat)) = true := by simp; omega
        clear hc
        go_enter Tryd.func18, Tryd.ntmps18
        go_wp2_with (go_at_call 36; (with_reducible refine (KO.out).mono ?_); rintro e w1 ⟨v, rfl, hx1, -⟩; have k0 : w1.cell? ⟨g, 0, none⟩ = some (.map (some b)) := k0.out w1 hx1; have hl := kl.out w1 hx1)
        go_ret
        exact ⟨rfl, HF.out.ext_to (by repeat (first | with_reducible exact Below.refl _ _ | with_reducible assumption | with_reducible refine ExtD ?_ | with_reducible refine ExtDN ?_ | with_reducible refine ExtA ?_ | (with_reducible refine ExtR ?_ ?_; (first | omega | (dsimp only; omega) | (simp; done) | (simp; omega))) | (with_reducible refine ExtS ?_ ?_; (first | omega | (dsimp only; omega) | (simp; done) | (simp; omega))) | with_reducible refine Ext.tr ?_ (by with_reducible assumption)))⟩
      · have d7 : decide ((700 : Int) ≤ (hs.length : Nat)) = false := by simp; omega
        have KS := Lib.hid fun (w1 : World) (hx : Ext w w1) => step_any g b d w1 (HF.out.ext_ hx).blk hd
        unfold ptrV at KS
        by_cases hst : (stepD d).2 = true
        · have hc : createD d nm = ({ (stepD d).1 with files := d.files ++ [⟨nm, [], 0⟩] }, 0) := by unfold createD; rw [if_neg h0, if_neg (by omega), if_neg h7, if_pos hst]
          rw [hc]
          rw [hst] at KS
          have kz := Lib.hid fun (w1 w2 : World) (hx : Ext w w1) (hb : Blk w2 g 48 (fscells b (stepD d).1)) (hg : w1.grownBy w2 (some g)) => map_store (nm := nm) ((((HF.out.ext_ hx).cells hb hg (stepD_files d)).ext_ (ExtA (o := .cells #[.slice none 0 0, .int .i64 0] 61) (Ext.rfl' w2))).own) HF.out.map (by rw [List.length_map]; omega) w2.heap.size (by simp only [maxLen]; omega)
          clear hc h0
          go_enter Tryd.func18, Tryd.ntmps18
          go_wp2_with (first
            | (go_at_call 36; (with_reducible refine (KO.out).mono ?_); rintro e w1 ⟨v, rfl, hx1, -⟩; have k0 : w1.cell? ⟨g, 0, none⟩ = some (.map (some b)) := k0.out w1 hx1; have hl := kl.out w1 hx1)
            | (go_at_call 37; (with_reducible refine (KS.out _ (by repeat (first | with_reducible exact Below.refl _ _ | with_reducible assumption | with_reducible refine ExtD ?_ | with_reducible refine ExtDN ?_ | with_reducible refine ExtA ?_ | (with_reducible refine ExtR ?_ ?_; (first | omega | (dsimp only; omega) | (simp; done) | (simp; omega))) | (with_reducible refine ExtS ?_ ?_; (first | omega | (dsimp only; omega) | (simp; done) | (simp; omega))) | with_reducible refine Ext.tr ?_ (by with_reducible assumption)))).mono ?_); rintro e w2 ⟨rfl, hb2, hg2⟩; have k2 : w2.cell? ⟨g, 0, none⟩ = some (.map (some b)) := hb2.cell 0; obtain ⟨w3, hrun, hown, hgr⟩ := kz.out w1 w2 (by repeat (first | with_reducible exact Below.refl _ _ | with_reducible assumption | with_reducible refine ExtD ?_ | with_reducible refine ExtDN ?_ | with_reducible refine ExtA ?_ | (with_reducible refine ExtR ?_ ?_; (first | omega | (dsimp only; omega) | (simp; done) | (simp; omega))) | (with_reducible refine ExtS ?_ ?_; (first | omega | (dsimp only; omega) | (simp; done) | (simp; omega))) | with_reducible refine Ext.tr ?_ (by with_reducible assumption))) hb2 hg2; unfold ptrV at hrun))
          go_ret
          refine ⟨rfl, FsTo.pre ?_ hx1⟩
          have hX := (HF.out.ext_ hx1).cells hb2 hg2 (stepD_files d)
          have hZ := fs_new hX (by rw [stepD_files]; exact hms.2) (by omega) hown hgr
          obtain ⟨D', hs', r1, r2, r3⟩ := hZ
          exact ⟨D', hs', by rw [stepD_files] at r1; exact r1, (grown_turn hg2 (fun r hr => by injection hr with hr; subst hr; exact .inl foot_g)).tr r2, fun r hr => (r3 r hr).imp id fun hk => Nat.le_trans hg2.size hk⟩
        · have hc : createD d nm = ((stepD d).1, 3) := by unfold createD; rw [if_neg h0, if_neg (by omega), if_neg h7, if_neg hst]
          rw [hc]
          rw [show (stepD d).2 = false by simpa using hst] at KS
          clear hc h0
          go_enter Tryd.func18, Tryd.ntmps18
          go_wp2_with (first
            | (go_at_call 36; (with_reducible refine (KO.out).mono ?_); rintro e w1 ⟨v, rfl, hx1, -⟩; have k0 : w1.cell? ⟨g, 0, none⟩ = some (.map (some b)) := k0.out w1 hx1; have hl := kl.out w1 hx1)
            | (go_at_call 37; (with_reducible refine (KS.out _ (by repeat (first | with_reducible exact Below.refl _ _ | with_reducible assumption | with_reducible refine ExtD ?_ | with_reducible refine ExtDN ?_ | with_reducible refine ExtA ?_ | (with_reducible refine ExtR ?_ ?_; (first | omega | (dsimp only; omega) | (simp; done) | (simp; omega))) | (with_reducible refine ExtS ?_ ?_; (first | omega | (dsimp only; omega) | (simp; done) | (simp; omega))) | with_reducible refine Ext.tr ?_ (by with_reducible assumption)))).mono ?_); rintro e w2 ⟨rfl, hb2, hg2⟩))
          go_ret
          exact ⟨rfl, ((HF.out.ext_ hx1).cells_to hb2 hg2 (stepD_files d)).pre hx1⟩
    · have hc : createD d nm = (d, openE d nm) := by unfold createD; rw [if_neg h0, if_pos h51]
      rw [hc]
      have t1 : ((openE d nm : Nat) : Int) ≠ 0 := by omega
      have e1 : (((openE d nm : Nat) : Int) == 0) = false := by simpa using t1
      have e2 : (((openE d nm : Nat) : Int) != 51) = true := by simp; omega
      clear hc
      generalize openE d nm = E at *
      go_enter Tryd.func18, Tryd.ntmps18
      go_wp2_with (go_at_call 36; (with_reducible refine (KO.out).mono ?_); rintro e w1 ⟨v, rfl, hx1, -⟩)
      go_ret
      exact ⟨rfl, HF.out.ext_to (by repeat (first | with_reducible exact Below.refl _ _ | with_reducible assumption | with_reducible refine ExtD ?_ | with_reducible refine ExtDN ?_ | with_reducible refine ExtA ?_ | (with_reducible refine ExtR ?_ ?_; (first | omega | (dsimp only; omega) | (simp; done) | (simp; omega))) | (with_reducible refine ExtS ?_ ?_; (first | omega | (dsimp only; omega) | (simp; done) | (simp; omega))) | with_reducible refine Ext.tr ?_ (by with_reducible assumption)))⟩
end Go.Proofs.YtdoaniimfhpjhaaDoor
