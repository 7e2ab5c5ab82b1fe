/-
  A disk in memory; Restart.
-/
/-
  The head of chapter 10's laws; the walk of SimfsRights.
-/
/-
  What a disk keeps (plain law): its invariants behind every call.
-/
/-
  Lists of slices in memory; rows of ints of the call's own.
-/
/-
  The disk's calls, as the laws' walks take them: one contract a call, of any disk that keeps the invariants.
-/
/-
  The walk of SimfsSwaps.
-/
import Derived.Test.YtjajbbgebblalaaGreatDoorFsP
import Derived.StillTailTactics
import Derived.Test.YtjajbbgebblalaaGreatDoorFsR
namespace Go.Proofs.YtjajbbgebblalaaGreatDoor
open Go.RowKit
set_option linter.unusedVariables false
set_option linter.unusedSimpArgs false
open Go.Maps
open Go.Sort
def ints (l : List Int) : List Value := l.map (Value.int .i64)
def sumF (l : List Fil) : Nat := (l.map (·.data.length)).sum
theorem sumF_app (a b : List Fil) : sumF (a ++ b) = sumF a + sumF b := by unfold sumF; rw [List.map_append, List.sum_append]
theorem sumF_one (f : Fil) : sumF [f] = f.data.length := by simp [sumF]
theorem sumF_cons (f : Fil) (l : List Fil) : sumF (f :: l) = f.data.length + sumF l := by simp [sumF]
theorem sumF_perm {a b : List Fil} (h : a.Perm b) : sumF a = sumF b := (h.map _).sum_nat
def SafeF (l : List Fil) : Prop := ∀ f ∈ l, f.safe ≤ f.data.length
def restK (keep : List Int) (i : Nat) (f : Fil) : Nat := if i < keep.length then min (keep.getD i 0).toNat (f.data.length - f.safe) else 0
def restF (keep : List Int) (i : Nat) (f : Fil) : Fil := { f with data := f.data.take (f.safe + restK keep i f), safe := f.safe + restK keep i f }
def restL (keep : List Int) (l : List Fil) : List Fil := l.mapIdx (restF keep)
def atF (d : Dk) (keep : List Int) (k : Nat) : List Fil := restL keep ((sortF d.files).take k) ++ (sortF d.files).drop k
def atD (d : Dk) (keep : List Int) (k : Nat) : Dk := { d with files := atF d keep k, used := (sumF (atF d keep k) : Nat) }
def restartD (d : Dk) (keep : List Int) : Dk := { d with files := restL keep (sortF d.files), used := (sumF (restL keep (sortF d.files)) : Nat), fuse := 0, down := false }
theorem atF_zero (d : Dk) (keep : List Int) : atF d keep 0 = sortF d.files := by simp [atF, restL]
theorem atF_succ (d : Dk) (keep : List Int) (k : Nat) (f : Fil) (h : (sortF d.files)[k]? = some f) : ∃ a b, a.length = k ∧ atF d keep k = a ++ f :: b ∧ atF d keep (k + 1) = a ++ restF keep k f :: b := by
  have hlt : k < (sortF d.files).length := (List.getElem?_eq_some_iff.1 h).1
  have hf : (sortF d.files)[k] = f := (List.getElem?_eq_some_iff.1 h).2
  refine ⟨restL keep ((sortF d.files).take k), (sortF d.files).drop (k + 1), by simp [restL]; omega, ?_, ?_⟩
  · unfold atF
    rw [List.drop_eq_getElem_cons hlt, hf]
  · unfold atF restL
    rw [List.take_add_one, h, Option.toList_some, List.mapIdx_append]
    simp [List.length_take, Nat.min_eq_left (Nat.le_of_lt hlt)]
theorem atF_end (d : Dk) (keep : List Int) (k : Nat) (h : d.files.length ≤ k) : atF d keep k = restL keep (sortF d.files) := by
  have : (sortF d.files).length ≤ k := by rw [sortF_len]; exact h
  unfold atF
  rw [List.take_of_length_le this, List.drop_of_length_le this, List.append_nil]
/-- A disk's files in another order. -/
theorem FsX.perm {W w : World} {g b : Nat} {d : Dk} {D : DataW Value} {hs hs' : List HF} (h : FsX W w g d b D hs) (hp : hs'.Perm hs) : FsX W w g { d with files := hs'.map (·.1) } b D hs' := by
  have hf : (foot g b hs').Perm (foot g b hs) := ((hp.flatMap_right footH).cons b).cons g
  obtain ⟨m1, m2, m3, m4, m5⟩ := h.map
  exact { ext := h.ext, blk := h.blk, own := h.own, map := ⟨m1, by rw [m2, List.length_map, List.length_map, hp.length_eq], ((hp.map _).map _).nodup_iff.2 m3, fun nm => by
      rw [m4, Bool.eq_iff_iff, List.any_eq_true, List.any_eq_true]
      exact ⟨fun ⟨x, hx, hn⟩ => ⟨x, (hp.map _).mem_iff.2 hx, hn⟩, fun ⟨x, hx, hn⟩ => ⟨x, (hp.map _).mem_iff.1 hx, hn⟩⟩, fun nm p hm z => m5 nm p ((hp.map _).mem_iff.1 hm) z⟩, fil := fun f hm => h.fil f (hp.mem_iff.1 hm), dis := hf.nodup_iff.2 h.dis, base := fun r hr => h.base r (hf.mem_iff.1 hr), lt := fun r hr => h.lt r (hf.mem_iff.1 hr), hsd := rfl, cnt := by rw [hp.length_eq]; exact h.cnt }
theorem perm_lift {α β : Type} (f : α → β) {l : List α} {m : List β} (h : m.Perm (l.map f)) : ∃ l' : List α, l'.Perm l ∧ l'.map f = m := by
  generalize hx : l.map f = x at h
  induction h generalizing l with
  | nil => exact ⟨[], by cases l <;> simp_all, rfl⟩
  | cons b h ih =>
    cases l with
    | nil => simp at hx
    | cons a l =>
      simp at hx
      obtain ⟨rfl, h2⟩ := hx
      obtain ⟨l', h3, h4⟩ := ih h2
      exact ⟨a :: l', h3.cons a, by simp [h4]⟩
  | swap b c h =>
    cases l with
    | nil => simp at hx
    | cons a l =>
      cases l with
      | nil => simp at hx
      | cons a2 l =>
        simp at hx
        obtain ⟨rfl, rfl, rfl⟩ := hx
        exact ⟨a2 :: a :: l, List.Perm.swap _ _ _, rfl⟩
  | trans h1 h2 ih1 ih2 =>
    obtain ⟨l1, h3, h4⟩ := ih2 hx
    obtain ⟨l2, h5, h6⟩ := ih1 h4
    exact ⟨l2, h5.trans h3, h6⟩
theorem FsX.sorted {W w : World} {g b : Nat} {d : Dk} {D : DataW Value} {hs : List HF} (h : FsX W w g d b D hs) : ∃ hs' : List HF, hs'.Perm hs ∧ FsX W w g { d with files := sortF d.files } b D hs' := by
  have hp : (sortF d.files).Perm (hs.map (·.1)) := by rw [h.hsd]; exact sortF_perm _
  obtain ⟨hs', h1, h2⟩ := perm_lift (fun h : HF => h.1) hp
  have := h.perm h1
  rw [h2] at this
  exact ⟨hs', h1, this⟩
theorem foot_perm2 {g b : Nat} {hs hs' : List HF} (hp : hs'.Perm hs) : ∀ r, r ∈ foot g b hs' ↔ r ∈ foot g b hs := fun r => (((hp.flatMap_right footH).cons b).cons g).mem_iff
theorem fs_rest {W w3 w' : World} {g b p c0 fs k : Nat} {d1 d' : Dk} {D : DataW Value} {l1 l2 : List HF} {nm : ByteArray} {fd : List UInt8} {A : Option Addr} (h : FsX W w3 g d1 b D (l1 ++ (⟨nm, fd, fs⟩, p, A, c0) :: l2)) (hk : k ≤ fd.length) (ht : Turn [g, p] w3 w')
    (hb : Blk w' g 109 (fscells b d')) (hp : Blk w' p 111 #[.slice A k k, .int .i64 (k : Nat)]) (hd : d'.files = (l1.map (·.1)) ++ ⟨nm, fd.take k, k⟩ :: (l2.map (·.1))) :
    FsTo W w3 w' g b (l1 ++ (⟨nm, fd, fs⟩, p, A, c0) :: l2) d' := by
  have hfm : ((⟨nm, fd, fs⟩, p, A, c0) : HF) ∈ l1 ++ (⟨nm, fd, fs⟩, p, A, c0) :: l2 := by simp
  have hpf : p ∈ footH ((⟨nm, fd, fs⟩, p, A, c0) : HF) := by simp [footH]
  obtain ⟨hF, hO⟩ := h.fil _ hfm
  have hlen : (fd.take k).length = k := by rw [List.length_take]; omega
  refine fs_data (f' := (⟨nm, fd.take k, k⟩, p, A, k)) h rfl rfl (ht.mono (fun r hr => .inl (by simp at hr; rcases hr with rfl | rfl; simp; simp [footH]))) hb ⟨by simpa [filcells, hlen] using hp, ?_⟩ (fun r hr => .inl hr) (by rw [hd]; simp)
  dsimp only
  rw [hlen]
  have h2 := hO.cut hk
  have hne := OwnC.ne hF h2 (by decide)
  have hge := OwnC.ne h.blk h2 (by decide)
  exact ht.ownC h2 fun r hr hc => by
    simp at hc
    rcases hc with rfl | rfl
    · exact hge hr.symm
    · exact hne hr.symm
def RestR (W w w1 : World) (g b : Nat) (hs : List HF) (d : Dk) (keep : List Int) (c13 : Value) (wr : World) : Prop :=
  ∃ (k : Nat), c13 = .int .i64 k ∧ k ≤ d.files.length ∧ ∃ (D' : DataW Value) (hs' : List HF), FsX W wr g (atD d keep k) b D' hs' ∧ Turn (foot g b hs) w1 wr ∧ ∀ r ∈ foot g b hs', r ∈ foot g b hs ∨ w1.heap.size ≤ r
theorem FsTo.then {W w w1 w2 : World} {g b : Nat} {hs hs1 : List HF} {d2 : Dk} (h : FsTo W w1 w2 g b hs1 d2) (ht : Turn (foot g b hs) w w1) (hf : ∀ r ∈ foot g b hs1, r ∈ foot g b hs ∨ w.heap.size ≤ r) : FsTo W w w2 g b hs d2 := by
  obtain ⟨D, hs', h1, h2, h3⟩ := h
  exact ⟨D, hs', h1, ht.trans h2 hf, fun r hr => (h3 r hr).elim (fun h4 => hf r h4) (fun h4 => .inr (Nat.le_trans ht.size h4))⟩
theorem restK_le {keep : List Int} {i : Nat} {f : Fil} (h : f.safe ≤ f.data.length) : f.safe + restK keep i f ≤ f.data.length := by
  unfold restK
  split
  · have := Nat.min_le_right (keep.getD i 0).toNat (f.data.length - f.safe); omega
  · omega
theorem sumF_idx (F : Nat → Fil → Fil) (hF : ∀ i f, (F i f).data.length ≤ f.data.length) (l : List Fil) : sumF (l.mapIdx F) ≤ sumF l := by
  induction l generalizing F with
  | nil => simp [sumF]
  | cons f l ih =>
    rw [List.mapIdx_cons, sumF_cons, sumF_cons]
    have h1 := hF 0 f
    have h2 := ih (fun i => F (i + 1)) (fun i f => hF (i + 1) f)
    omega
theorem restF_len (keep : List Int) (i : Nat) (f : Fil) : (restF keep i f).data.length ≤ f.data.length := by
  unfold restF
  dsimp only
  rw [List.length_take]
  omega
theorem sumF_at (d : Dk) (keep : List Int) (k : Nat) : sumF (atF d keep k) ≤ sumF d.files := by
  unfold atF restL
  have h1 := sumF_idx (restF keep) (restF_len keep) ((sortF d.files).take k)
  have h2 : sumF ((sortF d.files).take k) + sumF ((sortF d.files).drop k) = sumF d.files := by
    rw [← sumF_app, List.take_append_drop, sumF_perm (sortF_perm _)]
  rw [sumF_app]
  omega
end Go.Proofs.YtjajbbgebblalaaGreatDoor

namespace Go.Proofs.YtjajbbgebblalaaGreatDoor
open Go.RowKit
set_option linter.unusedVariables false
set_option linter.unusedSimpArgs false
open Go.Maps
/-- Bytes in a block of their own, behind a call on the disk. -/
theorem rd_turn {F : List Nat} {w w' : World} {base n c : Nat} {A : Option Addr} {l : List UInt8} (h : w.ownsRow base 5 1 (.slice A n c) n (u8s l)) (ht : Turn F w w') (hn : ∀ r, (Value.slice A n c).ownBlock = some r → r ∉ F) : Rd w' A n (u8s l) := Rd.of_own (ht.own h hn)
theorem own_new8 (w : World) (l : List UInt8) (n : Nat) (hn : n = l.length) (hm : n ≤ maxLen) (cs : Array Value) (hc : cs = (u8s l).toArray) : (w.alloc (.cells cs 5)).ownsRow w.heap.size 5 1 (.slice (some ⟨w.heap.size, 0, none⟩) n n) n (u8s l) := by
  subst hc hn
  have h := own_new (s := 1) w w.heap.size (u8s l).toArray 5 l.length (Nat.le_refl _) hm (by simp [u8s])
  simpa using h
def z8 : List UInt8 := [0, 0, 0, 0, 0, 0, 0, 0]
theorem c123 : (#[.int .u8 1, .int .u8 2, .int .u8 3] : Array Value) = (u8s [1, 2, 3]).toArray := rfl
theorem b8L : bpart z8 0 = (u8s z8).toArray := rfl
def nmA : ByteArray := ⟨#[97]⟩
def dA : Dk := ⟨[⟨nmA, [], 0⟩], 10, 0, 1, 0, 0, false⟩
def dB : Dk := ⟨[⟨nmA, [1, 2, 3], 0⟩], 10, 3, 2, 0, 0, false⟩
theorem rA : rightB nmA = true := by decide
theorem cA : createD (newD 10) nmA = (dA, 0) := by
  have h1 : openE (newD 10) nmA = 51 := by unfold openE; rw [rA]; rfl
  unfold createD
  rw [h1]
  rfl
theorem cB : appendD dA nmA [1, 2, 3] = (dB, 0) := by
  have h1 : openE dA nmA = 0 := by unfold openE; rw [rA]; rfl
  unfold appendD
  rw [h1]
  rfl
theorem cC : appendD dB nmA z8 = (dB, 54) := by
  have h1 : openE dB nmA = 0 := by unfold openE; rw [rA]; rfl
  unfold appendD
  rw [h1]
  rfl
theorem nA : DkNum (newD 10) ∧ DkNum dA ∧ DkNum dB := by unfold DkNum newD dA dB; simp
theorem kA : DkOk dA ∧ DkOk dB := by unfold DkOk dA dB; simp
def nmS : ByteArray := ⟨#[115, 101, 103, 45, 48, 48, 48, 48, 48, 49]⟩
theorem rS : rightB nmS = true := by decide
def dN (nm : ByteArray) : Dk := ⟨[⟨nm, [], 0⟩], 1, 0, 1, 0, 0, false⟩
theorem cN {nm : ByteArray} (h : rightB nm = true) : createD (newD 1) nm = (dN nm, 0) := by
  have h1 : openE (newD 1) nm = 51 := by unfold openE; rw [h]; rfl
  unfold createD
  rw [h1]
  rfl
theorem cN2 {nm : ByteArray} (h : rightB nm = true) : createD (dN nm) nm = (dN nm, 52) := by
  have h1 : openE (dN nm) nm = 0 := by
    unfold openE
    rw [h, if_neg (by simp [dN]), if_neg (by simp), if_pos (by simp [dN])]
  unfold createD
  rw [h1]
  rfl
theorem cNo {nm : ByteArray} (h : rightB nm = false) : createD (newD 1) nm = (newD 1, 50) := by
  have h1 : openE (newD 1) nm = 50 := by unfold openE; rw [h]; rfl
  unfold createD
  rw [h1]
  rfl
theorem nN (nm : ByteArray) : DkNum (newD 1) ∧ DkNum (dN nm) := by unfold DkNum newD dN; simp
end Go.Proofs.YtjajbbgebblalaaGreatDoor

namespace Go.Proofs.YtjajbbgebblalaaGreatDoor
open Go.RowKit
set_option linter.unusedVariables false
set_option linter.unusedSimpArgs false
structure DkInv (d : Dk) : Prop where
  ok : DkOk d
  safe : SafeF d.files
  nd : (d.files.map (·.name)).Nodup
  rt : ∀ f ∈ d.files, rightB f.name = true
  fuse : 0 ≤ d.fuse ∧ d.fuse ≤ 9223372036854775807
  steps : 0 ≤ d.steps
  room : 0 ≤ d.room
  cnt : d.files.length ≤ 700
theorem DkInv.num {d : Dk} (h : DkInv d) (hs : d.steps ≤ 4611686018427387904) : DkNum d := ⟨by have := h.fuse.1; omega, h.fuse.2, h.steps, hs⟩
theorem ok_iff (d : Dk) : DkOk d ↔ d.used = (sumF d.files : Nat) ∧ d.used ≤ d.room ∧ d.room ≤ 67108864 := Iff.rfl
theorem inv_new (r : Int) : DkInv (newD r) where
  ok := by refine ⟨rfl, ?_, ?_⟩ <;> simp only [newD] <;> omega
  safe := fun f hf => by cases hf
  nd := List.nodup_nil
  rt := fun f hf => by cases hf
  fuse := by simp [newD]
  steps := by simp [newD]
  room := by simp only [newD]; omega
  cnt := by simp [newD]
theorem stepD_room (d : Dk) : (stepD d).1.room = d.room := by
  unfold stepD
  split
  · split <;> rfl
  · rfl
theorem stepD_read (d : Dk) : (stepD d).1.read = d.read := by
  unfold stepD
  split
  · split <;> rfl
  · rfl
theorem stepD_steps (d : Dk) : d.steps ≤ (stepD d).1.steps ∧ (stepD d).1.steps ≤ d.steps + 1 := by
  unfold stepD
  split
  · split <;> (dsimp only; omega)
  · dsimp only; omega
theorem stepD_fuse {d : Dk} (h : 0 ≤ d.fuse ∧ d.fuse ≤ 9223372036854775807) : 0 ≤ (stepD d).1.fuse ∧ (stepD d).1.fuse ≤ 9223372036854775807 := by
  unfold stepD
  split
  · split <;> (dsimp only; omega)
  · exact h
/-- The same disk with other files, other counts. -/
theorem DkInv.of {d d' : Dk} (h : DkInv d) (h1 : d'.used = (sumF d'.files : Nat)) (h2 : d'.used ≤ d'.room) (h3 : d'.room = d.room) (h4 : SafeF d'.files) (h5 : (d'.files.map (·.name)).Nodup) (h6 : ∀ f ∈ d'.files, rightB f.name = true) (h7 : 0 ≤ d'.fuse ∧ d'.fuse ≤ 9223372036854775807) (h8 : 0 ≤ d'.steps) (h9 : d'.files.length ≤ 700) : DkInv d' :=
  ⟨⟨h1, h2, by rw [h3]; exact h.ok.2.2⟩, h4, h5, h6, h7, h8, by rw [h3]; exact h.room, h9⟩
theorem inv_step {d : Dk} (h : DkInv d) : DkInv (stepD d).1 := by
  refine h.of ?_ ?_ (stepD_room d) ?_ ?_ ?_ (stepD_fuse h.fuse) (Int.le_trans h.steps (stepD_steps d).1) ?_
  · rw [stepD_used, stepD_files]; exact h.ok.1
  · rw [stepD_used, stepD_room]; exact h.ok.2.1
  all_goals rw [stepD_files]
  · exact h.safe
  · exact h.nd
  · exact h.rt
  · exact h.cnt
theorem hit_any {d : Dk} {nm : ByteArray} (h : openE d nm = 0) : (d.files.any fun f => decide (f.name = nm)) = true := by
  unfold openE at h
  split at h
  · omega
  · split at h
    · omega
    · split at h
      · assumption
      · omega
theorem split_at {l : List Fil} (hnd : (l.map (·.name)).Nodup) {nm : ByteArray} (hin : (l.any fun f => decide (f.name = nm)) = true) :
    ∃ l1 f l2, l = l1 ++ f :: l2 ∧ f.name = nm ∧ (∀ x ∈ l1, x.name ≠ nm) ∧ (∀ x ∈ l2, x.name ≠ nm) := by
  rw [List.any_eq_true] at hin
  obtain ⟨f, hf, hn⟩ := hin
  obtain ⟨l1, l2, rfl⟩ := List.append_of_mem hf
  have hn : f.name = nm := by simpa using hn
  subst hn
  rw [List.map_append, List.map_cons, List.nodup_append] at hnd
  obtain ⟨_, h2, h3⟩ := hnd
  rw [List.nodup_cons] at h2
  exact ⟨l1, f, l2, rfl, rfl, fun x hx hc => h3 x.name (List.mem_map.2 ⟨x, hx, rfl⟩) f.name List.mem_cons_self hc, fun x hx hc => h2.1 (List.mem_map.2 ⟨x, hx, hc⟩)⟩
section
variable {l1 l2 : List Fil} {f : Fil} {nm : ByteArray} (hn : f.name = nm) (h1 : ∀ x ∈ l1, x.name ≠ nm) (h2 : ∀ x ∈ l2, x.name ≠ nm)
include hn h1 h2
theorem map_at (k : Fil → Fil) : (l1 ++ f :: l2).map (fun x => if x.name = nm then k x else x) = l1 ++ k f :: l2 := by
  rw [List.map_append, List.map_cons, if_pos hn]
  congr 1
  · exact (List.map_congr_left (g := id) fun x hx => by simp [h1 x hx]).trans (List.map_id _)
  · congr 1
    exact (List.map_congr_left (g := id) fun x hx => by simp [h2 x hx]).trans (List.map_id _)
theorem filter_at : (l1 ++ f :: l2).filter (fun x => decide (x.name ≠ nm)) = l1 ++ l2 := by
  rw [List.filter_append, List.filter_cons_of_neg (by simpa using hn), List.filter_eq_self.2 (fun x hx => by simpa using h1 x hx), List.filter_eq_self.2 (fun x hx => by simpa using h2 x hx)]
end
theorem find_at {l1 l2 : List Fil} {f : Fil} {nm : ByteArray} (hn : f.name = nm) (h1 : ∀ x ∈ l1, x.name ≠ nm) (_h2 : ∀ x ∈ l2, x.name ≠ nm) : (l1 ++ f :: l2).find? (fun x => decide (x.name = nm)) = some f := by
  rw [List.find?_append]
  have : l1.find? (fun x => decide (x.name = nm)) = none := List.find?_eq_none.2 fun x hx => by simpa using h1 x hx
  rw [this, List.find?_cons_of_pos (by simpa using hn)]
  rfl
/-- One file's bytes are other ones. -/
theorem inv_data {d : Dk} (h : DkInv d) {l1 l2 : List Fil} {f f' : Fil} (hl : d.files = l1 ++ f :: l2) (hn : f'.name = f.name) (hs : f'.safe ≤ f'.data.length) {d' : Dk} (hf : d'.files = l1 ++ f' :: l2) (hr : d'.room = d.room)
    (hu : d'.used = d.used - (f.data.length : Nat) + (f'.data.length : Nat)) (hur : d'.used ≤ d.room) (hfu : 0 ≤ d'.fuse ∧ d'.fuse ≤ 9223372036854775807) (hst : 0 ≤ d'.steps) : DkInv d' := by
  have hk := h.ok.1
  have e1 : sumF d.files = sumF l1 + (f.data.length + sumF l2) := by rw [hl, sumF_app, sumF_cons]
  have e2 : sumF d'.files = sumF l1 + (f'.data.length + sumF l2) := by rw [hf, sumF_app, sumF_cons]
  have hk : d.used = (sumF d.files : Nat) := hk
  refine h.of (by omega) (by rw [hr]; exact hur) hr ?_ ?_ ?_ hfu hst ?_
  · rw [hf]
    have := h.safe
    rw [hl] at this
    intro x hx
    rcases List.mem_append.1 hx with hx | hx
    · exact this x (List.mem_append_left _ hx)
    · rcases List.mem_cons.1 hx with rfl | hx
      · exact hs
      · exact this x (List.mem_append_right _ (List.mem_cons_of_mem _ hx))
  · rw [hf]
    have := h.nd
    rw [hl] at this
    simpa [hn] using this
  · rw [hf]
    have := h.rt
    rw [hl] at this
    intro x hx
    rcases List.mem_append.1 hx with hx | hx
    · exact this x (List.mem_append_left _ hx)
    · rcases List.mem_cons.1 hx with rfl | hx
      · rw [hn]; exact this f (List.mem_append_right _ List.mem_cons_self)
      · exact this x (List.mem_append_right _ (List.mem_cons_of_mem _ hx))
  · have := h.cnt
    rw [hl] at this
    rw [hf]
    simpa using this
theorem inv_create {d : Dk} (h : DkInv d) (nm : ByteArray) : DkInv (createD d nm).1 := by
  unfold createD
  split
  · exact h
  · split
    · exact h
    · rename_i h0 h51
      have h51 : openE d nm = 51 := by omega
      obtain ⟨hr, hno⟩ := openE_miss h51
      split
      · exact h
      · rename_i h7
        split
        · have hS := inv_step h
          refine h.of ?_ ?_ (stepD_room d) ?_ ?_ ?_ hS.fuse hS.steps ?_ <;> dsimp only
          · rw [stepD_used, sumF_app]; have := h.ok.1; simp [sumF] at this ⊢; exact this
          · rw [stepD_used, stepD_room]; exact h.ok.2.1
          · intro f hf
            rcases List.mem_append.1 hf with hf | hf
            · exact h.safe f hf
            · simp at hf; subst hf; exact Nat.le_refl _
          · rw [List.map_append, List.nodup_append]
            refine ⟨h.nd, by simp, fun a ha c hc hac => ?_⟩
            simp at hc
            subst hc hac
            obtain ⟨f, hf, he⟩ := List.mem_map.1 ha
            rw [List.any_eq_false] at hno
            exact hno f hf (by simpa using he)
          · intro f hf
            rcases List.mem_append.1 hf with hf | hf
            · exact h.rt f hf
            · simp at hf; subst hf; exact hr
          · simp; omega
        · exact inv_step h
theorem inv_append {d : Dk} (h : DkInv d) (nm : ByteArray) (l : List UInt8) : DkInv (appendD d nm l).1 := by
  unfold appendD
  split
  · exact h
  · rename_i h0
    have h0 : openE d nm = 0 := by omega
    split
    · exact h
    · rename_i hfull
      obtain ⟨l1, f, l2, hl, hn, n1, n2⟩ := split_at h.nd (hit_any h0)
      have hS := inv_step h
      have hsf : f.safe ≤ f.data.length := h.safe f (by rw [hl]; simp)
      refine inv_data h (f' := { f with data := f.data ++ l }) hl rfl (by simp; omega) ?_ (stepD_room d) ?_ ?_ hS.fuse hS.steps <;> dsimp only
      · unfold dataD; rw [hl]; exact map_at hn n1 n2 _
      · rw [List.length_append]; omega
      · omega
theorem inv_sync {d : Dk} (h : DkInv d) (nm : ByteArray) : DkInv (syncD d nm).1 := by
  unfold syncD
  split
  · exact h
  · rename_i h0
    have h0 : openE d nm = 0 := by omega
    split
    · obtain ⟨l1, f, l2, hl, hn, n1, n2⟩ := split_at h.nd (hit_any h0)
      have hS := inv_step h
      refine inv_data h (f' := { f with safe := f.data.length }) hl rfl (Nat.le_refl _) ?_ (stepD_room d) ?_ ?_ hS.fuse hS.steps <;> dsimp only
      · unfold dataD; rw [hl]; exact map_at hn n1 n2 _
      · rw [stepD_used]; omega
      · rw [stepD_used]; exact h.ok.2.1
    · exact inv_step h
theorem inv_cut {d : Dk} (h : DkInv d) (nm : ByteArray) (n : Int) : DkInv (cutD d nm n).1 := by
  unfold cutD
  split
  · exact h
  · rename_i h0
    have h0 : openE d nm = 0 := by omega
    split
    · exact h
    · rename_i hb
      split
      · obtain ⟨l1, f, l2, hl, hn, n1, n2⟩ := split_at h.nd (hit_any h0)
        have hS := inv_step h
        have hg : lenF d nm = f.data.length := by unfold lenF getF; rw [hl, find_at hn n1 n2]; rfl
        rw [hg] at hb ⊢
        have hlen : (f.data.take n.toNat).length = n.toNat := by rw [List.length_take]; omega
        have hu := len_le_used h.ok (f := f) (by rw [hl]; simp)
        refine inv_data h (f' := { f with data := f.data.take n.toNat, safe := min f.safe n.toNat }) hl rfl ?_ ?_ (stepD_room d) ?_ ?_ hS.fuse hS.steps <;> dsimp only
        · rw [hlen]; omega
        · unfold dataD; rw [hl]; exact map_at hn n1 n2 _
        · rw [hlen]; omega
        · have := h.ok.2.1; omega
      · exact inv_step h
theorem inv_remove {d : Dk} (h : DkInv d) (nm : ByteArray) : DkInv (removeD d nm).1 := by
  unfold removeD
  split
  · exact h
  · rename_i h0
    have h0 : openE d nm = 0 := by omega
    split
    · obtain ⟨l1, f, l2, hl, hn, n1, n2⟩ := split_at h.nd (hit_any h0)
      have hS := inv_step h
      have hg : lenF d nm = f.data.length := by unfold lenF getF; rw [hl, find_at hn n1 n2]; rfl
      have hf : d.files.filter (fun f => decide (f.name ≠ nm)) = l1 ++ l2 := by rw [hl]; exact filter_at hn n1 n2
      have hsub : (l1 ++ l2).Sublist d.files := by rw [← hf]; exact List.filter_sublist
      rw [hg, hf]
      have e1 : sumF d.files = sumF l1 + (f.data.length + sumF l2) := by rw [hl, sumF_app, sumF_cons]
      have e2 := sumF_app l1 l2
      have hk : d.used = (sumF d.files : Nat) := h.ok.1
      refine h.of ?_ ?_ (stepD_room d) (fun x hx => h.safe x (hsub.subset hx)) (h.nd.sublist (hsub.map _)) (fun x hx => h.rt x (hsub.subset hx)) hS.fuse hS.steps (Nat.le_trans hsub.length_le h.cnt) <;> dsimp only
      · omega
      · rw [stepD_room]; have := h.ok.2.1; omega
    · exact inv_step h
theorem inv_read {d : Dk} (h : DkInv d) (nm : ByteArray) (i n : Int) : DkInv (readD d nm i n).1 := by
  unfold readD
  split
  · exact h
  · dsimp only
    split
    · exact h
    · exact h.of h.ok.1 h.ok.2.1 rfl h.safe h.nd h.rt h.fuse h.steps h.cnt
theorem inv_fuse {d : Dk} (h : DkInv d) (n : Int) (hn : n ≤ 9223372036854775807) : DkInv { d with fuse := max 0 n } :=
  h.of h.ok.1 h.ok.2.1 rfl h.safe h.nd h.rt (by dsimp only; omega) h.steps h.cnt
theorem idx_names (F : Nat → Fil → Fil) (hF : ∀ i f, (F i f).name = f.name) (l : List Fil) : (l.mapIdx F).map (·.name) = l.map (·.name) := by
  induction l generalizing F with
  | nil => rfl
  | cons f l ih =>
    rw [List.mapIdx_cons, List.map_cons, List.map_cons, hF, ih _ (fun i f => hF (i + 1) f)]
theorem inv_restart {d : Dk} (h : DkInv d) (keep : List Int) : DkInv (restartD d keep) := by
  have hsum := sumF_idx (restF keep) (restF_len keep) (sortF d.files)
  rw [sumF_perm (sortF_perm _)] at hsum
  have hnm := idx_names (restF keep) (fun _ _ => rfl) (sortF d.files)
  have hk : d.used = (sumF d.files : Nat) := h.ok.1
  refine h.of rfl ?_ rfl ?_ ?_ ?_ (by simp [restartD]) h.steps ?_ <;> unfold restartD restL
  · dsimp only; have := h.ok.2.1; omega
  · intro x hx
    obtain ⟨i, hi, rfl⟩ := List.mem_mapIdx.1 hx
    have hs := h.safe _ ((sortF_perm _).mem_iff.1 (List.getElem_mem hi))
    have := restK_le (keep := keep) (i := i) hs
    unfold restF
    dsimp only
    rw [List.length_take]
    omega
  · dsimp only
    rw [hnm]
    exact ((sortF_perm _).map _).nodup_iff.2 h.nd
  · intro x hx
    obtain ⟨i, hi, rfl⟩ := List.mem_mapIdx.1 hx
    exact h.rt (sortF d.files)[i] ((sortF_perm _).mem_iff.1 (List.getElem_mem hi))
  · dsimp only
    rw [List.length_mapIdx, sortF_len]
    exact h.cnt
theorem inv_rename {d : Dk} (h : DkInv d) (a t : ByteArray) : DkInv (renameD d a t).1 := by
  unfold renameD
  split
  · exact h
  · rename_i hb
    split
    · exact h
    · rename_i h0
      have h0 : openE d a = 0 := by omega
      have hrt : rightB t = true := by simpa [h0] using hb
      split
      · exact inv_step h
      · split
        · exact inv_step h
        · rename_i hat
          obtain ⟨l1, f, l2, hl, hn, n1, n2⟩ := split_at h.nd (hit_any h0)
          have hS := inv_step h
          have hg : getF d a = some f := by unfold getF; rw [hl, find_at hn n1 n2]
          have hf0 : d.files.filter (fun f => decide (f.name ≠ a)) = l1 ++ l2 := by rw [hl]; exact filter_at hn n1 n2
          have hf : renF d a t = (l1 ++ l2).filter (fun f => decide (f.name ≠ t)) ++ [{ f with name := t }] := by
            unfold renF
            rw [hg, ← hf0, List.filter_filter]
            simp [Bool.and_comm]
          have hsub : ((l1 ++ l2).filter (fun f => decide (f.name ≠ t))).Sublist d.files := by rw [← hf0]; exact List.filter_sublist.trans List.filter_sublist
          have e1 : sumF d.files = sumF (l1 ++ l2) + f.data.length := by rw [hl, sumF_app, sumF_cons, sumF_app]; omega
          have e2 : sumF ((l1 ++ l2).filter (fun f => decide (f.name ≠ t))) + lenF d t = sumF (l1 ++ l2) := by
            by_cases hin : (d.files.any fun f => decide (f.name = t)) = true
            · obtain ⟨m1, g, m2, hm, hgn, o1, o2⟩ := split_at h.nd hin
              have hg2 : lenF d t = g.data.length := by unfold lenF getF; rw [hm, find_at hgn o1 o2]; rfl
              have hin2 : ((l1 ++ l2).any fun f => decide (f.name = t)) = true := by
                rw [List.any_eq_true]
                refine ⟨g, ?_, by simpa using hgn⟩
                rw [← hf0]
                exact List.mem_filter.2 ⟨by rw [hm]; simp, by rw [hgn]; simpa using fun hc => hat hc.symm⟩
              have hnd2 : ((l1 ++ l2).map (·.name)).Nodup := h.nd.sublist (by rw [← hf0]; exact List.filter_sublist.map _)
              obtain ⟨k1, g2, k2, hk, hkn, p1, p2⟩ := split_at hnd2 hin2
              have hgg : g2 = g := by
                have hm2 : g2 ∈ d.files := by
                  have : g2 ∈ l1 ++ l2 := by rw [hk]; simp
                  rw [← hf0] at this
                  exact (List.mem_filter.1 this).1
                rw [hm] at hm2
                rcases List.mem_append.1 hm2 with hm2 | hm2
                · exact absurd hkn (o1 _ hm2)
                · rcases List.mem_cons.1 hm2 with hm2 | hm2
                  · exact hm2
                  · exact absurd hkn (o2 _ hm2)
              rw [hk, filter_at hkn p1 p2, hg2, ← hgg, sumF_app, sumF_app, sumF_cons]
              omega
            · have hno : ∀ x ∈ d.files, x.name ≠ t := fun x hx hc => hin (List.any_eq_true.2 ⟨x, hx, by simpa using hc⟩)
              have hz : lenF d t = 0 := by
                unfold lenF getF
                rw [List.find?_eq_none.2 (fun x hx => by simpa using hno x hx)]; rfl
              rw [hz, List.filter_eq_self.2 (fun x hx => by
                have : x ∈ d.files := by rw [← hf0] at hx; exact (List.mem_filter.1 hx).1
                simpa using hno x this)]
              omega
          have hk : d.used = (sumF d.files : Nat) := h.ok.1
          have hfm : f ∈ d.files := by rw [hl]; simp
          refine h.of ?_ ?_ (stepD_room d) ?_ ?_ ?_ hS.fuse hS.steps ?_ <;> dsimp only
          · rw [hf, sumF_app, sumF_one]; dsimp only; omega
          · rw [stepD_room]; have := h.ok.2.1; omega
          · rw [hf]
            intro x hx
            rcases List.mem_append.1 hx with hx | hx
            · exact h.safe x (hsub.subset hx)
            · simp at hx; subst hx; exact h.safe f hfm
          · rw [hf, List.map_append, List.nodup_append]
            refine ⟨h.nd.sublist (hsub.map _), by simp, fun x hx c hc hxc => ?_⟩
            simp at hc
            subst hc hxc
            obtain ⟨y, hy, he⟩ := List.mem_map.1 hx
            have := (List.mem_filter.1 hy).2
            simp [he] at this
          · rw [hf]
            intro x hx
            rcases List.mem_append.1 hx with hx | hx
            · exact h.rt x (hsub.subset hx)
            · simp at hx; subst hx; exact hrt
          · rw [hf]
            have h1 := List.length_filter_le (fun f : Fil => decide (f.name ≠ t)) (l1 ++ l2)
            have h2 := h.cnt
            rw [hl] at h2
            simp at h1 h2 ⊢
            omega
end Go.Proofs.YtjajbbgebblalaaGreatDoor

namespace Go.Proofs.YtjajbbgebblalaaGreatDoor
open Go.RowKit
set_option linter.unusedVariables false
set_option linter.unusedSimpArgs false
open Go.Maps
/-- A list that a slice of slices holds: its elements, each with its address and capacity. -/
abbrev HB := List UInt8 × Option Addr × Nat
abbrev HI := List Int × Option Addr × Nat
def BsRd (w : World) (A : Option Addr) (hs : List HB) : Prop := Rd w A hs.length (hs.map fun h => .slice h.2.1 h.1.length h.2.2) ∧ ∀ h ∈ hs, Rd w h.2.1 h.1.length (u8s h.1) ∧ h.1.length ≤ 140737488351232
def IsRd (w : World) (A : Option Addr) (hs : List HI) : Prop := Rd w A hs.length (hs.map fun h => .slice h.2.1 h.1.length h.2.2) ∧ ∀ h ∈ hs, Rd w h.2.1 h.1.length (ints h.1) ∧ h.1.length * 8 ≤ 140737488351232 ∧ ∀ x ∈ h.1, IsI64 x
theorem BsRd.ext {w w' : World} {A : Option Addr} {hs : List HB} (h : BsRd w A hs) (hx : Ext w w') : BsRd w' A hs := ⟨h.1.ext hx, fun g hg => ⟨(h.2 g hg).1.ext hx, (h.2 g hg).2⟩⟩
theorem IsRd.ext {w w' : World} {A : Option Addr} {hs : List HI} (h : IsRd w A hs) (hx : Ext w w') : IsRd w' A hs := ⟨h.1.ext hx, fun g hg => ⟨(h.2 g hg).1.ext hx, (h.2 g hg).2⟩⟩
theorem bs_at {w : World} {A : Option Addr} {hs : List HB} (h : BsRd w A hs) {k : Nat} (hk : k < hs.length) :
    ∃ b o l B c, A = some ⟨b, o, none⟩ ∧ hs[k]? = some (l, B, c) ∧ w.cell? ⟨b, o + k, none⟩ = some (.slice B l.length c) ∧ Rd w B l.length (u8s l) ∧ l.length ≤ 140737488351232 := by
  obtain ⟨b, o, e, hc⟩ := h.1.2 (by omega)
  have hg : hs[k]? = some hs[k] := List.getElem?_eq_getElem hk
  exact ⟨b, o, hs[k].1, hs[k].2.1, hs[k].2.2, e, hg, hc k _ (by simp [hg]), h.2 _ (List.getElem_mem _)⟩
theorem is_at {w : World} {A : Option Addr} {hs : List HI} (h : IsRd w A hs) {k : Nat} (hk : k < hs.length) :
    ∃ b o l B c, A = some ⟨b, o, none⟩ ∧ hs[k]? = some (l, B, c) ∧ w.cell? ⟨b, o + k, none⟩ = some (.slice B l.length c) ∧ Rd w B l.length (ints l) ∧ l.length * 8 ≤ 140737488351232 ∧ ∀ x ∈ l, IsI64 x := by
  obtain ⟨b, o, e, hc⟩ := h.1.2 (by omega)
  have hg : hs[k]? = some hs[k] := List.getElem?_eq_getElem hk
  exact ⟨b, o, hs[k].1, hs[k].2.1, hs[k].2.2, e, hg, hc k _ (by simp [hg]), h.2 _ (List.getElem_mem _)⟩
theorem el_int : Elem Tryz.prog 3 (.int .i64 0) 1 8 := ⟨by kernel_rfl, rfl, by decide⟩
theorem one_int (l : List Int) : ∀ u ∈ ints l, u.oneCell' = true := fun u hu => by simp [ints] at hu; obtain ⟨x, _, rfl⟩ := hu; rfl
theorem ints_len (l : List Int) : (ints l).length = l.length := by simp [ints]
theorem ints_app (l m : List Int) : ints (l ++ m) = ints l ++ ints m := by simp [ints]
section
variable {w : World}
theorem wpI_append {ops : Array Oper} {rest : List Oper} {o : Oper} {a : Act} {Q : Exit → Act → World → Prop} (hgd : o.guard = none) (s x : Operand)
    (ho : o.op = .call { callee := .builtin .append, args := #[s, x], argTypes := #[42, 42] }) (base : Nat)
    {A0 : Option Addr} {n0 c0 : Nat} {l : List Int} (hs : a.eval s = .slice A0 n0 c0) (hown : w.ownsRow base 3 1 (.slice A0 n0 c0) n0 (ints l)) (hbase : base ≤ w.heap.size)
    {A : Option Addr} {m c : Nat} {news : List Int} (hx : a.eval x = .slice A m c) (hr : Rd w A m (ints news)) (n' : Nat) (l' : List Int) (hn' : n0 + m = n') (hl' : l ++ news = l') (hb : n' * 8 ≤ 140737488355328)
    (h : ∀ A' c' w', w'.ownsRow base 3 1 (.slice A' n' c') n' (ints l') → w.grownBy w' (Value.slice A0 n0 c0).ownBlock →
      wpList Tryz.prog ops Q rest (a.put o.dst (.slice A' n' c')) w') : wpList Tryz.prog ops Q (o :: rest) a w := by
  subst hn' hl'
  refine wpL_append hgd s x 42 ho base 3 _ 1 8 Tryz.underlying42 el_int _ n0 _ hs hown A m c _ hx hr.toN (one_int _) (n0 + m) (ints (l ++ news)) rfl (ints_app _ _).symm (by simp only [maxLen]; omega) hb hbase ?_
  intro v' w' hown' hg _
  obtain ⟨A', c', rfl⟩ := own_slice hown'
  exact h A' c' w' hown' hg
end
theorem own_emptyI (w : World) (base : Nat) (hb : base ≤ w.heap.size) : (w.alloc (.cells #[] 3)).ownsRow base 3 1 (.slice (some ⟨w.heap.size, 0, none⟩) 0 0) 0 (ints []) := own_new w base #[] _ 0 hb (by decide) rfl
theorem rdI_turn {F : List Nat} {w w' : World} {base n c : Nat} {A : Option Addr} {l : List Int} (h : w.ownsRow base 3 1 (.slice A n c) n (ints l)) (ht : Turn F w w') (hn : ∀ r, (Value.slice A n c).ownBlock = some r → r ∉ F) : Rd w' A n (ints l) := Rd.of_own (ht.own h hn)
/-- A row laid behind a disk is none of the disk's. -/
theorem own_off {W w w1 : World} {g b : Nat} {d : Dk} {D : DataW Value} {hs : List HF} (h : FsX W w g d b D hs) {e : TypeId} {s n : Nat} {v : Value} {xs : List Value} (ho : w1.ownsRow w.heap.size e s v n xs) : ∀ r, v.ownBlock = some r → r ∉ foot g b hs := fun r hr hc => by
  have h1 := (ho.lt r hr).1
  have h2 := h.lt r hc
  omega
/-- What is none of the disk's stays so, and stays. -/
theorem FsTo.off {W w w' : World} {g b : Nat} {hs hs' : List HF} {r : Nat} (hf : ∀ r ∈ foot g b hs', r ∈ foot g b hs ∨ w.heap.size ≤ r) (hr : r ∉ foot g b hs) (hl : r < w.heap.size) : r ∉ foot g b hs' := fun hc => by
  rcases hf r hc with h | h
  · exact hr h
  · omega
/-- A row that is none of the disk's. -/
def Off (w : World) (F : List Nat) (base : Nat) (e : TypeId) (s : Nat) (v : Value) (n : Nat) (xs : List Value) : Prop := w.ownsRow base e s v n xs ∧ ∀ r, v.ownBlock = some r → r ∉ F
section
variable {w w' : World} {F F' : List Nat} {base s n : Nat} {e : TypeId} {v : Value} {xs : List Value}
theorem Off.own (h : Off w F base e s v n xs) : w.ownsRow base e s v n xs := h.1
theorem Off.ext (h : Off w F base e s v n xs) (hx : Ext w w') : Off w' F base e s v n xs := ⟨own_ext hx h.1, h.2⟩
theorem Off.to (h : Off w F base e s v n xs) (ht : Turn F w w') (hf : ∀ r ∈ F', r ∈ F ∨ w.heap.size ≤ r) : Off w' F' base e s v n xs :=
  ⟨ht.own h.1 h.2, fun r hr hc => by
    rcases hf r hc with h1 | h1
    · exact h.2 r hr h1
    · have := (h.1.lt r hr).2; omega⟩
end
end Go.Proofs.YtjajbbgebblalaaGreatDoor

namespace Go.Proofs.YtjajbbgebblalaaGreatDoor
open Go.RowKit
set_option linter.unusedVariables false
set_option linter.unusedSimpArgs false
open Go.Maps
abbrev gP (g : Nat) : Value := .pointer (some ⟨g, 0, none⟩)
section
variable {W w : World} {g b : Nat} {d : Dk} {D : DataW Value} {hs : List HF}
theorem createK (h : FsX W w g d b D hs) (hI : DkInv d) (hst : d.steps ≤ 4611686018427387904) (nm : ByteArray) : Calls Tryz.prog 61 #[.pointer (some ⟨g, 0, none⟩), .string nm] w fun e w' => e = .returned (.int .i64 ((createD d nm).2 : Nat)) ∧ FsTo W w w' g b hs (createD d nm).1 := create_any W w g b d D hs nm h (hI.num hst)
theorem appendK (h : FsX W w g d b D hs) (hI : DkInv d) (hst : d.steps ≤ 4611686018427387904) (nm : ByteArray) (B : Option Addr) (m c : Nat) (l : List UInt8) (hlm : l.length = m) (hm : m ≤ 140737488355328) (hr : ∀ w', Turn (foot g b hs) w w' → Rd w' B m (u8s l)) :
    Calls Tryz.prog 63 #[.pointer (some ⟨g, 0, none⟩), .string nm, .slice B m c] w fun e w' => e = .returned (.int .i64 ((appendD d nm l).2 : Nat)) ∧ FsTo W w w' g b hs (appendD d nm l).1 := append_any W w g b d D hs nm B m c l h (hI.num hst) hI.ok hlm hm hr
theorem syncK (h : FsX W w g d b D hs) (hI : DkInv d) (hst : d.steps ≤ 4611686018427387904) (nm : ByteArray) : Calls Tryz.prog 65 #[.pointer (some ⟨g, 0, none⟩), .string nm] w fun e w' => e = .returned (.int .i64 ((syncD d nm).2 : Nat)) ∧ FsTo W w w' g b hs (syncD d nm).1 := sync_any W w g b d D hs nm h (hI.num hst)
theorem renameK (h : FsX W w g d b D hs) (hI : DkInv d) (hst : d.steps ≤ 4611686018427387904) (nm tn : ByteArray) : Calls Tryz.prog 67 #[.pointer (some ⟨g, 0, none⟩), .string nm, .string tn] w fun e w' => e = .returned (.int .i64 ((renameD d nm tn).2 : Nat)) ∧ FsTo W w w' g b hs (renameD d nm tn).1 := rename_any W w g b d D hs nm tn h (hI.num hst) hI.ok
theorem readK (h : FsX W w g d b D hs) (hI : DkInv d) (nm : ByteArray) (i n : Int) (hi : IsI64 i) (hn : IsI64 n) : Calls Tryz.prog 70 #[.pointer (some ⟨g, 0, none⟩), .string nm, .int .i64 i, .int .i64 n] w (GaveB W w g b hs (readD d nm i n).1 (readD d nm i n).2.1 (readD d nm i n).2.2) := read_any W w g b d D hs nm i n h hI.ok hi hn
theorem sizeK (h : FsX W w g d b D hs) (nm : ByteArray) : Calls Tryz.prog 69 #[.pointer (some ⟨g, 0, none⟩), .string nm] w fun e w' => e = .returned (.tuple #[.int .i64 ((sizeD d nm).1 : Nat), .int .i64 ((sizeD d nm).2 : Nat)]) ∧ Ext w w' := size_any W w g b d D hs nm h
theorem fuseK (h : FsX W w g d b D hs) (n : Int) : Calls Tryz.prog 14 #[.pointer (some ⟨g, 0, none⟩), .int .i64 n] w fun e w' => e = .returned (.tuple #[]) ∧ FsTo W w w' g b hs { d with fuse := max 0 n } := fuse_any W w g b d D hs n h
theorem imageK (h : FsX W w g d b D hs) (hI : DkInv d) : Calls Tryz.prog 19 #[.pointer (some ⟨g, 0, none⟩)] w (GaveF w (imgL d)) := image_any W w g b d D hs h hI.ok
theorem newK (room : Int) (w : World) : Calls Tryz.prog 51 #[.int .i64 room] w fun e w' => ∃ g b, e = .returned (.pointer (some ⟨g, 0, none⟩)) ∧ FsX w w' g (newD room) b (.map []) [] := fsnew_any room w
end
theorem createD_steps (d : Dk) (nm : ByteArray) : d.steps ≤ (createD d nm).1.steps ∧ (createD d nm).1.steps ≤ d.steps + 1 := by
  have := stepD_steps d
  unfold createD
  repeat (first | (dsimp only; omega) | split)
theorem appD_steps (d : Dk) (nm : ByteArray) (l : List UInt8) : d.steps ≤ (appendD d nm l).1.steps ∧ (appendD d nm l).1.steps ≤ d.steps + 1 := by
  have := stepD_steps d
  unfold appendD
  repeat (first | (dsimp only; omega) | split)
theorem syncD_steps (d : Dk) (nm : ByteArray) : d.steps ≤ (syncD d nm).1.steps ∧ (syncD d nm).1.steps ≤ d.steps + 1 := by
  have := stepD_steps d
  unfold syncD
  repeat (first | (dsimp only; omega) | split)
theorem renameD_steps (d : Dk) (nm tn : ByteArray) : d.steps ≤ (renameD d nm tn).1.steps ∧ (renameD d nm tn).1.steps ≤ d.steps + 1 := by
  have := stepD_steps d
  unfold renameD
  repeat (first | (dsimp only; omega) | split)
theorem removeD_steps (d : Dk) (nm : ByteArray) : d.steps ≤ (removeD d nm).1.steps ∧ (removeD d nm).1.steps ≤ d.steps + 1 := by
  have := stepD_steps d
  unfold removeD
  repeat (first | (dsimp only; omega) | split)
theorem cutD_steps (d : Dk) (nm : ByteArray) (n : Int) : d.steps ≤ (cutD d nm n).1.steps ∧ (cutD d nm n).1.steps ≤ d.steps + 1 := by
  have := stepD_steps d
  unfold cutD
  repeat (first | (dsimp only; omega) | split)
theorem readD_steps (d : Dk) (nm : ByteArray) (i n : Int) : (readD d nm i n).1.steps = d.steps := by
  unfold readD
  split
  · rfl
  · dsimp only
    split <;> rfl
end Go.Proofs.YtjajbbgebblalaaGreatDoor

namespace Go.Proofs.YtjajbbgebblalaaGreatDoor
open Go.RowKit
set_option linter.unusedVariables false
set_option linter.unusedSimpArgs false
open Go.Maps
def nmB : ByteArray := ⟨#[98]⟩
theorem rB : rightB nmB = true := by decide
theorem abNe : nmA ≠ nmB ∧ nmB ≠ nmA := by decide
def dW1 : Dk := ⟨[⟨nmA, [], 0⟩], 67108864, 0, 1, 0, 0, false⟩
def dW2 : Dk := ⟨[⟨nmA, [], 0⟩, ⟨nmB, [], 0⟩], 67108864, 0, 2, 0, 0, false⟩
def dW3 (old : List UInt8) : Dk := ⟨[⟨nmA, old, 0⟩, ⟨nmB, [], 0⟩], 67108864, (old.length : Nat), 3, 0, 0, false⟩
def dW4 (old : List UInt8) : Dk := ⟨[⟨nmA, old, old.length⟩, ⟨nmB, [], 0⟩], 67108864, (old.length : Nat), 4, 0, 0, false⟩
def dW5 (old : List UInt8) (n : Int) : Dk := { dW4 old with fuse := max 0 n }
theorem open_in {d : Dk} (hd : d.down = false) {nm : ByteArray} (hr : rightB nm = true) {f : Fil} (hf : f ∈ d.files) (hn : f.name = nm) : openE d nm = 0 := by
  unfold openE
  rw [hd, hr]
  have : (d.files.any fun f => decide (f.name = nm)) = true := List.any_eq_true.2 ⟨f, hf, by simpa using hn⟩
  rw [this]
  simp
theorem cW1 : createD (newD 67108864) nmA = (dW1, 0) := by
  have h1 : openE (newD 67108864) nmA = 51 := by unfold openE; rw [rA]; rfl
  unfold createD
  rw [h1]
  rfl
theorem cW2 : createD dW1 nmB = (dW2, 0) := by
  have h1 : openE dW1 nmB = 51 := by
    unfold openE
    rw [rB]
    simp [dW1, abNe.1]
  unfold createD
  rw [h1]
  rfl
theorem cW3 (old : List UInt8) (h : old.length ≤ 33554432) : appendD dW2 nmA old = (dW3 old, 0) := by
  unfold appendD
  rw [open_in (d := dW2) rfl rA (f := ⟨nmA, [], 0⟩) (by simp [dW2]) rfl, if_neg (by simp), if_neg (by unfold dW2; dsimp only; omega)]
  simp [stepD, dW2, dW3, dataD, abNe.2]
theorem cW4 (old : List UInt8) : syncD (dW3 old) nmA = (dW4 old, 0) := by
  unfold syncD
  rw [open_in (d := dW3 old) rfl rA (f := ⟨nmA, old, 0⟩) (by simp [dW3]) rfl, if_neg (by simp)]
  simp [stepD, dW3, dW4, dataD, abNe.2]
theorem invW (old : List UInt8) (h : old.length ≤ 33554432) : DkInv dW1 ∧ DkInv dW2 ∧ DkInv (dW3 old) ∧ DkInv (dW4 old) := by
  have h1 := inv_create (inv_new 67108864) nmA
  rw [cW1] at h1
  have h2 := inv_create h1 nmB
  rw [cW2] at h2
  have h3 := inv_append h2 nmA old
  rw [cW3 old h] at h3
  have h4 := inv_sync h3 nmA
  rw [cW4] at h4
  exact ⟨h1, h2, h3, h4⟩
theorem find_mem {l : List Fil} (hnd : (l.map (·.name)).Nodup) {f : Fil} (hf : f ∈ l) : l.find? (fun x => decide (x.name = f.name)) = some f := by
  obtain ⟨l1, g, l2, rfl, hn, h1, h2⟩ := split_at hnd (nm := f.name) (List.any_eq_true.2 ⟨f, hf, by simp⟩)
  rw [find_at hn h1 h2]
  rcases List.mem_append.1 hf with hf | hf
  · exact absurd rfl (h1 f hf)
  · rcases List.mem_cons.1 hf with rfl | hf
    · rfl
    · exact absurd rfl (h2 f hf)
/-- What is safe whole is there behind a loss of power. -/
theorem restart_safe {d : Dk} (h : DkInv d) {f : Fil} (hf : f ∈ d.files) (hs : f.safe = f.data.length) (keep : List Int) : f ∈ (restartD d keep).files := by
  have hm := (sortF_perm d.files).mem_iff.2 hf
  obtain ⟨i, hi, he⟩ := List.getElem_of_mem hm
  show f ∈ restL keep (sortF d.files)
  unfold restL
  rw [List.mem_mapIdx]
  refine ⟨i, hi, ?_⟩
  rw [he]
  have h0 : restK keep i f = 0 := by unfold restK; rw [hs]; split <;> simp
  unfold restF
  rw [h0, Nat.add_zero, hs, List.take_length, ← hs]
theorem restart_len (d : Dk) (keep : List Int) : (restartD d keep).files.length = d.files.length := by
  show (restL keep (sortF d.files)).length = _
  unfold restL
  rw [List.length_mapIdx, sortF_len]
theorem file_read {d : Dk} (h : DkInv d) (hd : d.down = false) {f : Fil} (hf : f ∈ d.files) (hr : rightB f.name = true) : sizeD d f.name = (f.data.length, 0) ∧ ∃ d', readD d f.name 0 (f.data.length : Nat) = (d', f.data, 0) ∧ d'.files = d.files ∧ d'.down = false := by
  have ho := open_in hd hr hf rfl
  have hg : getF d f.name = some f := find_mem h.nd hf
  constructor
  · unfold sizeD
    rw [ho, if_neg (by simp), hg]
    rfl
  · refine ⟨{ d with read := wrap64 (d.read + (f.data.length : Nat)) }, ?_, rfl, hd⟩
    unfold readD
    rw [ho, if_neg (by simp), hg]
    refine (if_neg ?_).trans ?_
    · dsimp only [Option.map_some, Option.getD_some]; omega
    · simp
theorem st_free {d : Dk} (h : d.fuse = 0) : stepD d = ({ d with steps := d.steps + 1 }, true) := by unfold stepD; rw [if_neg (by omega)]
theorem st_one {d : Dk} (h : d.fuse = 1) : stepD d = ({ d with fuse := 0, down := true }, false) := by unfold stepD; rw [if_pos (by omega), if_pos h]
theorem st_more {d : Dk} (h : 2 ≤ d.fuse) : stepD d = ({ d with fuse := d.fuse - 1, steps := d.steps + 1 }, true) := by unfold stepD; rw [if_pos (by omega), if_neg (by omega)]
def SwapOut (old young : List UInt8) (d6 : Dk) (e6 : Nat) : Prop := (e6 = 0 ∧ d6.files = [⟨nmA, young, young.length⟩]) ∨ (e6 = 3 ∧ ∃ x s, d6.files = [⟨nmA, old, old.length⟩, ⟨nmB, x, s⟩])
theorem swap_out (old young : List UInt8) (n : Int) (hl : old.length + young.length ≤ 33554432) :
    SwapOut old young (renameD (syncD (appendD (dW5 old n) nmB young).1 nmB).1 nmB nmA).1 (renameD (syncD (appendD (dW5 old n) nmB young).1 nmB).1 nmB nmA).2 := by
  have ho : openE (dW5 old n) nmB = 0 := open_in (d := dW5 old n) rfl rB (f := ⟨nmB, [], 0⟩) (by simp [dW5, dW4]) rfl
  have hA : (appendD (dW5 old n) nmB young).1 = { (stepD (dW5 old n)).1 with files := [⟨nmA, old, old.length⟩, ⟨nmB, young, 0⟩], used := (old.length : Nat) + (young.length : Nat) } := by
    unfold appendD
    rw [ho, if_neg (by simp), if_neg (by unfold dW5 dW4; dsimp only; omega)]
    simp [dW5, dW4, dataD, abNe.1]
  rw [hA]
  clear hA ho
  have nDn : ∀ {d : Dk} (nm : ByteArray), d.down = true → openE d nm = 3 := fun nm h => by unfold openE; rw [h]; rfl
  have off : ∀ {d : Dk} {x : List UInt8} {s : Nat}, d.down = true → d.files = [⟨nmA, old, old.length⟩, ⟨nmB, x, s⟩] → SwapOut old young (renameD d nmB nmA).1 (renameD d nmB nmA).2 := fun {d x s} h hf => by
    have : renameD d nmB nmA = (d, 3) := by
      unfold renameD
      rw [nDn nmB h, if_neg (by rintro ⟨h1 | h1, _⟩ <;> omega), if_pos (by decide)]
    rw [this]
    exact .inr ⟨rfl, x, s, hf⟩
  have offS : ∀ {d : Dk} {x : List UInt8} {s : Nat}, d.down = true → d.files = [⟨nmA, old, old.length⟩, ⟨nmB, x, s⟩] → SwapOut old young (renameD (syncD d nmB).1 nmB nmA).1 (renameD (syncD d nmB).1 nmB nmA).2 := fun {d x s} h hf => by
    have : (syncD d nmB).1 = d := by
      unfold syncD
      rw [nDn nmB h, if_pos (by decide)]
    rw [this]
    exact off h hf
  have up : ∀ {d : Dk} {x : List UInt8} {s : Nat}, d.down = false → d.files = [⟨nmA, old, old.length⟩, ⟨nmB, x, s⟩] → openE d nmB = 0 := fun {d x s} h hf => open_in h rB (f := ⟨nmB, x, s⟩) (by rw [hf]; simp) rfl
  have syn : ∀ {d : Dk} {x : List UInt8} {s : Nat}, d.down = false → d.files = [⟨nmA, old, old.length⟩, ⟨nmB, x, s⟩] → (stepD d).2 = true → (syncD d nmB).1 = { (stepD d).1 with files := [⟨nmA, old, old.length⟩, ⟨nmB, x, x.length⟩] } := fun {d x s} h hf hs => by
    unfold syncD
    rw [up h hf, if_neg (by decide), if_pos hs]
    simp [dataD, hf, abNe.1]
  have synF : ∀ {d : Dk} {x : List UInt8} {s : Nat}, d.down = false → d.files = [⟨nmA, old, old.length⟩, ⟨nmB, x, s⟩] → (stepD d).2 = false → (syncD d nmB).1 = (stepD d).1 := fun {d x s} h hf hs => by
    unfold syncD
    rw [up h hf, if_neg (by decide), if_neg (by simp [hs])]
  have ren : ∀ {d : Dk}, d.down = false → d.files = [⟨nmA, old, old.length⟩, ⟨nmB, young, young.length⟩] → (stepD d).2 = true → SwapOut old young (renameD d nmB nmA).1 (renameD d nmB nmA).2 := fun {d} h hf hs => by
    have : renameD d nmB nmA = ({ (stepD d).1 with files := renF d nmB nmA, used := d.used - (lenF d nmA : Nat) }, 0) := by
      unfold renameD
      rw [up h hf, if_neg (by rw [rA]; simp), if_neg (by decide), if_neg (by simp [hs]), if_neg abNe.2]
    rw [this]
    refine .inl ⟨rfl, ?_⟩
    unfold renF getF
    rw [hf]
    simp [abNe.1]
  have renF' : ∀ {d : Dk}, d.down = false → d.files = [⟨nmA, old, old.length⟩, ⟨nmB, young, young.length⟩] → (stepD d).2 = false → SwapOut old young (renameD d nmB nmA).1 (renameD d nmB nmA).2 := fun {d} h hf hs => by
    have : renameD d nmB nmA = ((stepD d).1, 3) := by
      unfold renameD
      rw [up h hf, if_neg (by rw [rA]; simp), if_neg (by decide), if_pos hs]
    rw [this]
    exact .inr ⟨rfl, _, _, by rw [stepD_files]; exact hf⟩
  obtain ⟨F, hF⟩ : ∃ F, F = max 0 n := ⟨_, rfl⟩
  have hd5 : dW5 old n = { dW4 old with fuse := F } := by unfold dW5; rw [hF]
  rw [hd5]
  have hF0 : 0 ≤ F := by omega
  clear hF hd5
  by_cases h1 : F = 1
  · rw [st_one (d := { dW4 old with fuse := F }) h1]
    exact offS (x := young) (s := 0) rfl rfl
  · by_cases h0 : F = 0
    · rw [st_free (d := { dW4 old with fuse := F }) h0]
      rw [syn (x := young) (s := 0) rfl rfl (by rw [st_free]; exact h0)]
      rw [st_free (by exact h0)]
      exact ren rfl rfl (by rw [st_free]; exact h0)
    · rw [st_more (d := { dW4 old with fuse := F }) (by dsimp only; omega)]
      by_cases h2 : F = 2
      · have h21 : F - 1 = 1 := by omega
        rw [synF (x := young) (s := 0) rfl rfl (by rw [st_one]; exact h21)]
        rw [st_one (by exact h21)]
        exact off (x := young) (s := 0) rfl rfl
      · have h31 : 2 ≤ F - 1 := by omega
        rw [syn (x := young) (s := 0) rfl rfl (by rw [st_more]; exact h31)]
        rw [st_more (by exact h31)]
        by_cases h3 : F = 3
        · have h32 : F - 1 - 1 = 1 := by omega
          exact renF' rfl rfl (by rw [st_one]; exact h32)
        · have h33 : 2 ≤ F - 1 - 1 := by omega
          exact ren rfl rfl (by rw [st_more]; exact h33)
theorem swap_end {old young : List UInt8} {d8 : Dk} {e8 : Nat} (h : SwapOut old young d8 e8) (hI : DkInv d8) (keep : List Int) :
    ∃ l N, ((e8 = 0 ∧ l = young ∧ N = 1) ∨ (e8 = 3 ∧ l = old ∧ N = 2)) ∧ sizeD (restartD d8 keep) nmA = (l.length, 0) ∧ ∃ d', readD (restartD d8 keep) nmA 0 (l.length : Nat) = (d', l, 0) ∧ d'.files.length = N ∧ d'.down = false := by
  have hR := inv_restart hI keep
  rcases h with ⟨he, hf⟩ | ⟨he, x, s, hf⟩
  · have hm := restart_safe hI (f := ⟨nmA, young, young.length⟩) (by rw [hf]; simp) rfl keep
    obtain ⟨h1, d', h2, h3, h4⟩ := file_read hR rfl hm rA
    exact ⟨young, 1, .inl ⟨he, rfl, rfl⟩, h1, d', h2, by rw [h3, restart_len, hf]; rfl, h4⟩
  · have hm := restart_safe hI (f := ⟨nmA, old, old.length⟩) (by rw [hf]; simp) rfl keep
    obtain ⟨h1, d', h2, h3, h4⟩ := file_read hR rfl hm rA
    exact ⟨old, 2, .inr ⟨he, rfl, rfl⟩, h1, d', h2, by rw [h3, restart_len, hf]; rfl, h4⟩
end Go.Proofs.YtjajbbgebblalaaGreatDoor
