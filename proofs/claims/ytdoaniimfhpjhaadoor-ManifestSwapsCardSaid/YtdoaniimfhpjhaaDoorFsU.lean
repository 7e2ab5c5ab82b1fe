/-
  What a disk keeps (plain law): its invariants behind every call.
-/
/-
  Lists of slices in memory; rows of ints of the call's own.
-/
import Derived.Test.YtdoaniimfhpjhaaDoorFsT
import Derived.Test.YtdoaniimfhpjhaaDoorFsL
namespace Go.Proofs.YtdoaniimfhpjhaaDoor
open Go.RowKit
set_option linter.unusedVariables false
set_option linter.unusedSimpArgs false
structure DkInv (d : Dk) : Prop where
  ok : DkOk d
  safe : SafeF d.files
  nd : (d.files.map (·.name)).Nodup
  rt : ∀ f ∈ d.files, rightB f.name = true
  fuse : 0 ≤ d.fuse ∧ d.fuse ≤ 9223372036854775807
  steps : 0 ≤ d.steps
  room : 0 ≤ d.room
  cnt : d.files.length ≤ 700
theorem DkInv.num {d : Dk} (h : DkInv d) (hs : d.steps ≤ 4611686018427387904) : DkNum d := ⟨by have := h.fuse.1; omega, h.fuse.2, h.steps, hs⟩
theorem ok_iff (d : Dk) : DkOk d ↔ d.used = (sumF d.files : Nat) ∧ d.used ≤ d.room ∧ d.room ≤ 67108864 := Iff.rfl
theorem inv_new (r : Int) : DkInv (newD r) where
  ok := by refine ⟨rfl, ?_, ?_⟩ <;> simp only [newD] <;> omega
  safe := fun f hf => by cases hf
  nd := List.nodup_nil
  rt := fun f hf => by cases hf
  fuse := by simp [newD]
  steps := by simp [newD]
  room := by simp only [newD]; omega
  cnt := by simp [newD]
theorem stepD_room (d : Dk) : (stepD d).1.room = d.room := by
  unfold stepD
  split
  · split <;> rfl
  · rfl
theorem stepD_read (d : Dk) : (stepD d).1.read = d.read := by
  unfold stepD
  split
  · split <;> rfl
  · rfl
theorem stepD_steps (d : Dk) : d.steps ≤ (stepD d).1.steps ∧ (stepD d).1.steps ≤ d.steps + 1 := by
  unfold stepD
  split
  · split <;> (dsimp only; omega)
  · dsimp only; omega
theorem stepD_fuse {d : Dk} (h : 0 ≤ d.fuse ∧ d.fuse ≤ 9223372036854775807) : 0 ≤ (stepD d).1.fuse ∧ (stepD d).1.fuse ≤ 9223372036854775807 := by
  unfold stepD
  split
  · split <;> (dsimp only; omega)
  · exact h
/-- The same disk with other files, other counts. -/
theorem DkInv.of {d d' : Dk} (h : DkInv d) (h1 : d'.used = (sumF d'.files : Nat)) (h2 : d'.used ≤ d'.room) (h3 : d'.room = d.room) (h4 : SafeF d'.files) (h5 : (d'.files.map (·.name)).Nodup) (h6 : ∀ f ∈ d'.files, rightB f.name = true) (h7 : 0 ≤ d'.fuse ∧ d'.fuse ≤ 9223372036854775807) (h8 : 0 ≤ d'.steps) (h9 : d'.files.length ≤ 700) : DkInv d' :=
  ⟨⟨h1, h2, by rw [h3]; exact h.ok.2.2⟩, h4, h5, h6, h7, h8, by rw [h3]; exact h.room, h9⟩
theorem inv_step {d : Dk} (h : DkInv d) : DkInv (stepD d).1 := by
  refine h.of ?_ ?_ (stepD_room d) ?_ ?_ ?_ (stepD_fuse h.fuse) (Int.le_trans h.steps (stepD_steps d).1) ?_
  · rw [stepD_used, stepD_files]; exact h.ok.1
  · rw [stepD_used, stepD_room]; exact h.ok.2.1
  all_goals rw [stepD_files]
  · exact h.safe
  · exact h.nd
  · exact h.rt
  · exact h.cnt
theorem hit_any {d : Dk} {nm : ByteArray} (h : openE d nm = 0) : (d.files.any fun f => decide (f.name = nm)) = true := by
  unfold openE at h
  split at h
  · omega
  · split at h
    · omega
    · split at h
      · assumption
      · omega
theorem split_at {l : List Fil} (hnd : (l.map (·.name)).Nodup) {nm : ByteArray} (hin : (l.any fun f => decide (f.name = nm)) = true) :
    ∃ l1 f l2, l = l1 ++ f :: l2 ∧ f.name = nm ∧ (∀ x ∈ l1, x.name ≠ nm) ∧ (∀ x ∈ l2, x.name ≠ nm) := by
  rw [List.any_eq_true] at hin
  obtain ⟨f, hf, hn⟩ := hin
  obtain ⟨l1, l2, rfl⟩ := List.append_of_mem hf
  have hn : f.name = nm := by simpa using hn
  subst hn
  rw [List.map_append, List.map_cons, List.nodup_append] at hnd
  obtain ⟨_, h2, h3⟩ := hnd
  rw [List.nodup_cons] at h2
  exact ⟨l1, f, l2, rfl, rfl, fun x hx hc => h3 x.name (List.mem_map.2 ⟨x, hx, rfl⟩) f.name List.mem_cons_self hc, fun x hx hc => h2.1 (List.mem_map.2 ⟨x, hx, hc⟩)⟩
section
variable {l1 l2 : List Fil} {f : Fil} {nm : ByteArray} (hn : f.name = nm) (h1 : ∀ x ∈ l1, x.name ≠ nm) (h2 : ∀ x ∈ l2, x.name ≠ nm)
include hn h1 h2
theorem map_at (k : Fil → Fil) : (l1 ++ f :: l2).map (fun x => if x.name = nm then k x else x) = l1 ++ k f :: l2 := by
  rw [List.map_append, List.map_cons, if_pos hn]
  congr 1
  · exact (List.map_congr_left (g := id) fun x hx => by simp [h1 x hx]).trans (List.map_id _)
  · congr 1
    exact (List.map_congr_left (g := id) fun x hx => by simp [h2 x hx]).trans (List.map_id _)
theorem filter_at : (l1 ++ f :: l2).filter (fun x => decide (x.name ≠ nm)) = l1 ++ l2 := by
  rw [List.filter_append, List.filter_cons_of_neg (by simpa using hn), List.filter_eq_self.2 (fun x hx => by simpa using h1 x hx), List.filter_eq_self.2 (fun x hx => by simpa using h2 x hx)]
end
theorem find_at {l1 l2 : List Fil} {f : Fil} {nm : ByteArray} (hn : f.name = nm) (h1 : ∀ x ∈ l1, x.name ≠ nm) (_h2 : ∀ x ∈ l2, x.name ≠ nm) : (l1 ++ f :: l2).find? (fun x => decide (x.name = nm)) = some f := by
  rw [List.find?_append]
  have : l1.find? (fun x => decide (x.name = nm)) = none := List.find?_eq_none.2 fun x hx => by simpa using h1 x hx
  rw [this, List.find?_cons_of_pos (by simpa using hn)]
  rfl
/-- One file's bytes are other ones. -/
theorem inv_data {d : Dk} (h : DkInv d) {l1 l2 : List Fil} {f f' : Fil} (hl : d.files = l1 ++ f :: l2) (hn : f'.name = f.name) (hs : f'.safe ≤ f'.data.length) {d' : Dk} (hf : d'.files = l1 ++ f' :: l2) (hr : d'.room = d.room)
    (hu : d'.used = d.used - (f.data.length : Nat) + (f'.data.length : Nat)) (hur : d'.used ≤ d.room) (hfu : 0 ≤ d'.fuse ∧ d'.fuse ≤ 9223372036854775807) (hst : 0 ≤ d'.steps) : DkInv d' := by
  have hk := h.ok.1
  have e1 : sumF d.files = sumF l1 + (f.data.length + sumF l2) := by rw [hl, sumF_app, sumF_cons]
  have e2 : sumF d'.files = sumF l1 + (f'.data.length + sumF l2) := by rw [hf, sumF_app, sumF_cons]
  have hk : d.used = (sumF d.files : Nat) := hk
  refine h.of (by omega) (by rw [hr]; exact hur) hr ?_ ?_ ?_ hfu hst ?_
  · rw [hf]
    have := h.safe
    rw [hl] at this
    intro x hx
    rcases List.mem_append.1 hx with hx | hx
    · exact this x (List.mem_append_left _ hx)
    · rcases List.mem_cons.1 hx with rfl | hx
      · exact hs
      · exact this x (List.mem_append_right _ (List.mem_cons_of_mem _ hx))
  · rw [hf]
    have := h.nd
    rw [hl] at this
    simpa [hn] using this
  · rw [hf]
    have := h.rt
    rw [hl] at this
    intro x hx
    rcases List.mem_append.1 hx with hx | hx
    · exact this x (List.mem_append_left _ hx)
    · rcases List.mem_cons.1 hx with rfl | hx
      · rw [hn]; exact this f (List.mem_append_right _ List.mem_cons_self)
      · exact this x (List.mem_append_right _ (List.mem_cons_of_mem _ hx))
  · have := h.cnt
    rw [hl] at this
    rw [hf]
    simpa using this
theorem inv_create {d : Dk} (h : DkInv d) (nm : ByteArray) : DkInv (createD d nm).1 := by
  unfold createD
  split
  · exact h
  · split
    · exact h
    · rename_i h0 h51
      have h51 : openE d nm = 51 := by omega
      obtain ⟨hr, hno⟩ := openE_miss h51
      split
      · exact h
      · rename_i h7
        split
        · have hS := inv_step h
          refine h.of ?_ ?_ (stepD_room d) ?_ ?_ ?_ hS.fuse hS.steps ?_ <;> dsimp only
          · rw [stepD_used, sumF_app]; have := h.ok.1; simp [sumF] at this ⊢; exact this
          · rw [stepD_used, stepD_room]; exact h.ok.2.1
          · intro f hf
            rcases List.mem_append.1 hf with hf | hf
            · exact h.safe f hf
            · simp at hf; subst hf; exact Nat.le_refl _
          · rw [List.map_append, List.nodup_append]
            refine ⟨h.nd, by simp, fun a ha c hc hac => ?_⟩
            simp at hc
            subst hc hac
            obtain ⟨f, hf, he⟩ := List.mem_map.1 ha
            rw [List.any_eq_false] at hno
            exact hno f hf (by simpa using he)
          · intro f hf
            rcases List.mem_append.1 hf with hf | hf
            · exact h.rt f hf
            · simp at hf; subst hf; exact hr
          · simp; omega
        · exact inv_step h
theorem inv_append {d : Dk} (h : DkInv d) (nm : ByteArray) (l : List UInt8) : DkInv (appendD d nm l).1 := by
  unfold appendD
  split
  · exact h
  · rename_i h0
    have h0 : openE d nm = 0 := by omega
    split
    · exact h
    · rename_i hfull
      obtain ⟨l1, f, l2, hl, hn, n1, n2⟩ := split_at h.nd (hit_any h0)
      have hS := inv_step h
      have hsf : f.safe ≤ f.data.length := h.safe f (by rw [hl]; simp)
      refine inv_data h (f' := { f with data := f.data ++ l }) hl rfl (by simp; omega) ?_ (stepD_room d) ?_ ?_ hS.fuse hS.steps <;> dsimp only
      · unfold dataD; rw [hl]; exact map_at hn n1 n2 _
      · rw [List.length_append]; omega
      · omega
theorem inv_sync {d : Dk} (h : DkInv d) (nm : ByteArray) : DkInv (syncD d nm).1 := by
  unfold syncD
  split
  · exact h
  · rename_i h0
    have h0 : openE d nm = 0 := by omega
    split
    · obtain ⟨l1, f, l2, hl, hn, n1, n2⟩ := split_at h.nd (hit_any h0)
      have hS := inv_step h
      refine inv_data h (f' := { f with safe := f.data.length }) hl rfl (Nat.le_refl _) ?_ (stepD_room d) ?_ ?_ hS.fuse hS.steps <;> dsimp only
      · unfold dataD; rw [hl]; exact map_at hn n1 n2 _
      · rw [stepD_used]; omega
      · rw [stepD_used]; exact h.ok.2.1
    · exact inv_step h
theorem inv_cut {d : Dk} (h : DkInv d) (nm : ByteArray) (n : Int) : DkInv (cutD d nm n).1 := by
  unfold cutD
  split
  · exact h
  · rename_i h0
    have h0 : openE d nm = 0 := by omega
    split
    · exact h
    · rename_i hb
      split
      · obtain ⟨l1, f, l2, hl, hn, n1, n2⟩ := split_at h.nd (hit_any h0)
        have hS := inv_step h
        have hg : lenF d nm = f.data.length := by unfold lenF getF; rw [hl, find_at hn n1 n2]; rfl
        rw [hg] at hb ⊢
        have hlen : (f.data.take n.toNat).length = n.toNat := by rw [List.length_take]; omega
        have hu := len_le_used h.ok (f := f) (by rw [hl]; simp)
        refine inv_data h (f' := { f with data := f.data.take n.toNat, safe := min f.safe n.toNat }) hl rfl ?_ ?_ (stepD_room d) ?_ ?_ hS.fuse hS.steps <;> dsimp only
        · rw [hlen]; omega
        · unfold dataD; rw [hl]; exact map_at hn n1 n2 _
        · rw [hlen]; omega
        · have := h.ok.2.1; omega
      · exact inv_step h
theorem inv_remove {d : Dk} (h : DkInv d) (nm : ByteArray) : DkInv (removeD d nm).1 := by
  unfold removeD
  split
  · exact h
  · rename_i h0
    have h0 : openE d nm = 0 := by omega
    split
    · obtain ⟨l1, f, l2, hl, hn, n1, n2⟩ := split_at h.nd (hit_any h0)
      have hS := inv_step h
      have hg : lenF d nm = f.data.length := by unfold lenF getF; rw [hl, find_at hn n1 n2]; rfl
      have hf : d.files.filter (fun f => decide (f.name ≠ nm)) = l1 ++ l2 := by rw [hl]; exact filter_at hn n1 n2
      have hsub : (l1 ++ l2).Sublist d.files := by rw [← hf]; exact List.filter_sublist
      rw [hg, hf]
      have e1 : sumF d.files = sumF l1 + (f.data.length + sumF l2) := by rw [hl, sumF_app, sumF_cons]
      have e2 := sumF_app l1 l2
      have hk : d.used = (sumF d.files : Nat) := h.ok.1
      refine h.of ?_ ?_ (stepD_room d) (fun x hx => h.safe x (hsub.subset hx)) (h.nd.sublist (hsub.map _)) (fun x hx => h.rt x (hsub.subset hx)) hS.fuse hS.steps (Nat.le_trans hsub.length_le h.cnt) <;> dsimp only
      · omega
      · rw [stepD_room]; have := h.ok.2.1; omega
    · exact inv_step h
theorem inv_read {d : Dk} (h : DkInv d) (nm : ByteArray) (i n : Int) : DkInv (readD d nm i n).1 := by
  unfold readD
  split
  · exact h
  · dsimp only
    split
    · exact h
    · exact h.of h.ok.1 h.ok.2.1 rfl h.safe h.nd h.rt h.fuse h.steps h.cnt
theorem inv_fuse {d : Dk} (h : DkInv d) (n : Int) (hn : n ≤ 9223372036854775807) : DkInv { d with fuse := max 0 n } :=
  h.of h.ok.1 h.ok.2.1 rfl h.safe h.nd h.rt (by dsimp only; omega) h.steps h.cnt
theorem idx_names (F : Nat → Fil → Fil) (hF : ∀ i f, (F i f).name = f.name) (l : List Fil) : (l.mapIdx F).map (·.name) = l.map (·.name) := by
  induction l generalizing F with
  | nil => rfl
  | cons f l ih =>
    rw [List.mapIdx_cons, List.map_cons, List.map_cons, hF, ih _ (fun i f => hF (i + 1) f)]
theorem inv_restart {d : Dk} (h : DkInv d) (keep : List Int) : DkInv (restartD d keep) := by
  have hsum := sumF_idx (restF keep) (restF_len keep) (sortF d.files)
  rw [sumF_perm (sortF_perm _)] at hsum
  have hnm := idx_names (restF keep) (fun _ _ => rfl) (sortF d.files)
  have hk : d.used = (sumF d.files : Nat) := h.ok.1
  refine h.of rfl ?_ rfl ?_ ?_ ?_ (by simp [restartD]) h.steps ?_ <;> unfold restartD restL
  · dsimp only; have := h.ok.2.1; omega
  · intro x hx
    obtain ⟨i, hi, rfl⟩ := List.mem_mapIdx.1 hx
    have hs := h.safe _ ((sortF_perm _).mem_iff.1 (List.getElem_mem hi))
    have := restK_le (keep := keep) (i := i) hs
    unfold restF
    dsimp only
    rw [List.length_take]
    omega
  · dsimp only
    rw [hnm]
    exact ((sortF_perm _).map _).nodup_iff.2 h.nd
  · intro x hx
    obtain ⟨i, hi, rfl⟩ := List.mem_mapIdx.1 hx
    exact h.rt (sortF d.files)[i] ((sortF_perm _).mem_iff.1 (List.getElem_mem hi))
  · dsimp only
    rw [List.length_mapIdx, sortF_len]
    exact h.cnt
theorem inv_rename {d : Dk} (h : DkInv d) (a t : ByteArray) : DkInv (renameD d a t).1 := by
  unfold renameD
  split
  · exact h
  · rename_i hb
    split
    · exact h
    · rename_i h0
      have h0 : openE d a = 0 := by omega
      have hrt : rightB t = true := by simpa [h0] using hb
      split
      · exact inv_step h
      · split
        · exact inv_step h
        · rename_i hat
          obtain ⟨l1, f, l2, hl, hn, n1, n2⟩ := split_at h.nd (hit_any h0)
          have hS := inv_step h
          have hg : getF d a = some f := by unfold getF; rw [hl, find_at hn n1 n2]
          have hf0 : d.files.filter (fun f => decide (f.name ≠ a)) = l1 ++ l2 := by rw [hl]; exact filter_at hn n1 n2
          have hf : renF d a t = (l1 ++ l2).filter (fun f => decide (f.name ≠ t)) ++ [{ f with name := t }] := by
            unfold renF
            rw [hg, ← hf0, List.filter_filter]
            simp [Bool.and_comm]
          have hsub : ((l1 ++ l2).filter (fun f => decide (f.name ≠ t))).Sublist d.files := by rw [← hf0]; exact List.filter_sublist.trans List.filter_sublist
          have e1 : sumF d.files = sumF (l1 ++ l2) + f.data.length := by rw [hl, sumF_app, sumF_cons, sumF_app]; omega
          have e2 : sumF ((l1 ++ l2).filter (fun f => decide (f.name ≠ t))) + lenF d t = sumF (l1 ++ l2) := by
            by_cases hin : (d.files.any fun f => decide (f.name = t)) = true
            · obtain ⟨m1, g, m2, hm, hgn, o1, o2⟩ := split_at h.nd hin
              have hg2 : lenF d t = g.data.length := by unfold lenF getF; rw [hm, find_at hgn o1 o2]; rfl
              have hin2 : ((l1 ++ l2).any fun f => decide (f.name = t)) = true := by
                rw [List.any_eq_true]
                refine ⟨g, ?_, by simpa using hgn⟩
                rw [← hf0]
                exact List.mem_filter.2 ⟨by rw [hm]; simp, by rw [hgn]; simpa using fun hc => hat hc.symm⟩
              have hnd2 : ((l1 ++ l2).map (·.name)).Nodup := h.nd.sublist (by rw [← hf0]; exact List.filter_sublist.map _)
              obtain ⟨k1, g2, k2, hk, hkn, p1, p2⟩ := split_at hnd2 hin2
              have hgg : g2 = g := by
                have hm2 : g2 ∈ d.files := by
                  have : g2 ∈ l1 ++ l2 := by rw [hk]; simp
                  rw [← hf0] at this
                  exact (List.mem_filter.1 this).1
                rw [hm] at hm2
                rcases List.mem_append.1 hm2 with hm2 | hm2
                · exact absurd hkn (o1 _ hm2)
                · rcases List.mem_cons.1 hm2 with hm2 | hm2
                  · exact hm2
                  · exact absurd hkn (o2 _ hm2)
              rw [hk, filter_at hkn p1 p2, hg2, ← hgg, sumF_app, sumF_app, sumF_cons]
              omega
            · have hno : ∀ x ∈ d.files, x.name ≠ t := fun x hx hc => hin (List.any_eq_true.2 ⟨x, hx, by simpa using hc⟩)
              have hz : lenF d t = 0 := by
                unfold lenF getF
                rw [List.find?_eq_none.2 (fun x hx => by simpa using hno x hx)]; rfl
              rw [hz, List.filter_eq_self.2 (fun x hx => by
                have : x ∈ d.files := by rw [← hf0] at hx; exact (List.mem_filter.1 hx).1
                simpa using hno x this)]
              omega
          have hk : d.used = (sumF d.files : Nat) := h.ok.1
          have hfm : f ∈ d.files := by rw [hl]; simp
          refine h.of ?_ ?_ (stepD_room d) ?_ ?_ ?_ hS.fuse hS.steps ?_ <;> dsimp only
          · rw [hf, sumF_app, sumF_one]; dsimp only; omega
          · rw [stepD_room]; have := h.ok.2.1; omega
          · rw [hf]
            intro x hx
            rcases List.mem_append.1 hx with hx | hx
            · exact h.safe x (hsub.subset hx)
            · simp at hx; subst hx; exact h.safe f hfm
          · rw [hf, List.map_append, List.nodup_append]
            refine ⟨h.nd.sublist (hsub.map _), by simp, fun x hx c hc hxc => ?_⟩
            simp at hc
            subst hc hxc
            obtain ⟨y, hy, he⟩ := List.mem_map.1 hx
            have := (List.mem_filter.1 hy).2
            simp [he] at this
          · rw [hf]
            intro x hx
            rcases List.mem_append.1 hx with hx | hx
            · exact h.rt x (hsub.subset hx)
            · simp at hx; subst hx; exact hrt
          · rw [hf]
            have h1 := List.length_filter_le (fun f : Fil => decide (f.name ≠ t)) (l1 ++ l2)
            have h2 := h.cnt
            rw [hl] at h2
            simp at h1 h2 ⊢
            omega
end Go.Proofs.YtdoaniimfhpjhaaDoor

namespace Go.Proofs.YtdoaniimfhpjhaaDoor
open Go.RowKit
set_option linter.unusedVariables false
set_option linter.unusedSimpArgs false
open Go.Maps
/-- A list that a slice of slices holds: its elements, each with its address and capacity. -/
abbrev HB := List UInt8 × Option Addr × Nat
abbrev HI := List Int × Option Addr × Nat
def BsRd (w : World) (A : Option Addr) (hs : List HB) : Prop := Rd w A hs.length (hs.map fun h => .slice h.2.1 h.1.length h.2.2) ∧ ∀ h ∈ hs, Rd w h.2.1 h.1.length (u8s h.1) ∧ h.1.length ≤ 140737488351232
def IsRd (w : World) (A : Option Addr) (hs : List HI) : Prop := Rd w A hs.length (hs.map fun h => .slice h.2.1 h.1.length h.2.2) ∧ ∀ h ∈ hs, Rd w h.2.1 h.1.length (ints h.1) ∧ h.1.length * 8 ≤ 140737488351232 ∧ ∀ x ∈ h.1, IsI64 x
theorem BsRd.ext {w w' : World} {A : Option Addr} {hs : List HB} (h : BsRd w A hs) (hx : Ext w w') : BsRd w' A hs := ⟨h.1.ext hx, fun g hg => ⟨(h.2 g hg).1.ext hx, (h.2 g hg).2⟩⟩
theorem IsRd.ext {w w' : World} {A : Option Addr} {hs : List HI} (h : IsRd w A hs) (hx : Ext w w') : IsRd w' A hs := ⟨h.1.ext hx, fun g hg => ⟨(h.2 g hg).1.ext hx, (h.2 g hg).2⟩⟩
theorem bs_at {w : World} {A : Option Addr} {hs : List HB} (h : BsRd w A hs) {k : Nat} (hk : k < hs.length) :
    ∃ b o l B c, A = some ⟨b, o, none⟩ ∧ hs[k]? = some (l, B, c) ∧ w.cell? ⟨b, o + k, none⟩ = some (.slice B l.length c) ∧ Rd w B l.length (u8s l) ∧ l.length ≤ 140737488351232 := by
  obtain ⟨b, o, e, hc⟩ := h.1.2 (by omega)
  have hg : hs[k]? = some hs[k] := List.getElem?_eq_getElem hk
  exact ⟨b, o, hs[k].1, hs[k].2.1, hs[k].2.2, e, hg, hc k _ (by simp [hg]), h.2 _ (List.getElem_mem _)⟩
theorem is_at {w : World} {A : Option Addr} {hs : List HI} (h : IsRd w A hs) {k : Nat} (hk : k < hs.length) :
    ∃ b o l B c, A = some ⟨b, o, none⟩ ∧ hs[k]? = some (l, B, c) ∧ w.cell? ⟨b, o + k, none⟩ = some (.slice B l.length c) ∧ Rd w B l.length (ints l) ∧ l.length * 8 ≤ 140737488351232 ∧ ∀ x ∈ l, IsI64 x := by
  obtain ⟨b, o, e, hc⟩ := h.1.2 (by omega)
  have hg : hs[k]? = some hs[k] := List.getElem?_eq_getElem hk
  exact ⟨b, o, hs[k].1, hs[k].2.1, hs[k].2.2, e, hg, hc k _ (by simp [hg]), h.2 _ (List.getElem_mem _)⟩
theorem el_int : Elem Tryd.prog 3 (.int .i64 0) 1 8 := ⟨by kernel_rfl, rfl, by decide⟩
theorem one_int (l : List Int) : ∀ u ∈ ints l, u.oneCell' = true := fun u hu => by simp [ints] at hu; obtain ⟨x, _, rfl⟩ := hu; rfl
theorem ints_len (l : List Int) : (ints l).length = l.length := by simp [ints]
theorem ints_app (l m : List Int) : ints (l ++ m) = ints l ++ ints m := by simp [ints]
section
variable {w : World}
theorem wpI_append {ops : Array Oper} {rest : List Oper} {o : Oper} {a : Act} {Q : Exit → Act → World → Prop} (hgd : o.guard = none) (s x : Operand)
    (ho : o.op = .call { callee := .builtin .append, args := #[s, x], argTypes := #[25, 25] }) (base : Nat)
    {A0 : Option Addr} {n0 c0 : Nat} {l : List Int} (hs : a.eval s = .slice A0 n0 c0) (hown : w.ownsRow base 3 1 (.slice A0 n0 c0) n0 (ints l)) (hbase : base ≤ w.heap.size)
    {A : Option Addr} {m c : Nat} {news : List Int} (hx : a.eval x = .slice A m c) (hr : Rd w A m (ints news)) (n' : Nat) (l' : List Int) (hn' : n0 + m = n') (hl' : l ++ news = l') (hb : n' * 8 ≤ 140737488355328)
    (h : ∀ A' c' w', w'.ownsRow base 3 1 (.slice A' n' c') n' (ints l') → w.grownBy w' (Value.slice A0 n0 c0).ownBlock →
      wpList Tryd.prog ops Q rest (a.put o.dst (.slice A' n' c')) w') : wpList Tryd.prog ops Q (o :: rest) a w := by
  subst hn' hl'
  refine wpL_append hgd s x 25 ho base 3 _ 1 8 Tryd.underlying25 el_int _ n0 _ hs hown A m c _ hx hr.toN (one_int _) (n0 + m) (ints (l ++ news)) rfl (ints_app _ _).symm (by simp only [maxLen]; omega) hb hbase ?_
  intro v' w' hown' hg _
  obtain ⟨A', c', rfl⟩ := own_slice hown'
  exact h A' c' w' hown' hg
end
theorem own_emptyI (w : World) (base : Nat) (hb : base ≤ w.heap.size) : (w.alloc (.cells #[] 3)).ownsRow base 3 1 (.slice (some ⟨w.heap.size, 0, none⟩) 0 0) 0 (ints []) := own_new w base #[] _ 0 hb (by decide) rfl
theorem rdI_turn {F : List Nat} {w w' : World} {base n c : Nat} {A : Option Addr} {l : List Int} (h : w.ownsRow base 3 1 (.slice A n c) n (ints l)) (ht : Turn F w w') (hn : ∀ r, (Value.slice A n c).ownBlock = some r → r ∉ F) : Rd w' A n (ints l) := Rd.of_own (ht.own h hn)
/-- A row laid behind a disk is none of the disk's. -/
theorem own_off {W w w1 : World} {g b : Nat} {d : Dk} {D : DataW Value} {hs : List HF} (h : FsX W w g d b D hs) {e : TypeId} {s n : Nat} {v : Value} {xs : List Value} (ho : w1.ownsRow w.heap.size e s v n xs) : ∀ r, v.ownBlock = some r → r ∉ foot g b hs := fun r hr hc => by
  have h1 := (ho.lt r hr).1
  have h2 := h.lt r hc
  omega
/-- What is none of the disk's stays so, and stays. -/
theorem FsTo.off {W w w' : World} {g b : Nat} {hs hs' : List HF} {r : Nat} (hf : ∀ r ∈ foot g b hs', r ∈ foot g b hs ∨ w.heap.size ≤ r) (hr : r ∉ foot g b hs) (hl : r < w.heap.size) : r ∉ foot g b hs' := fun hc => by
  rcases hf r hc with h | h
  · exact hr h
  · omega
/-- A row that is none of the disk's. -/
def Off (w : World) (F : List Nat) (base : Nat) (e : TypeId) (s : Nat) (v : Value) (n : Nat) (xs : List Value) : Prop := w.ownsRow base e s v n xs ∧ ∀ r, v.ownBlock = some r → r ∉ F
section
variable {w w' : World} {F F' : List Nat} {base s n : Nat} {e : TypeId} {v : Value} {xs : List Value}
theorem Off.own (h : Off w F base e s v n xs) : w.ownsRow base e s v n xs := h.1
theorem Off.ext (h : Off w F base e s v n xs) (hx : Ext w w') : Off w' F base e s v n xs := ⟨own_ext hx h.1, h.2⟩
theorem Off.to (h : Off w F base e s v n xs) (ht : Turn F w w') (hf : ∀ r ∈ F', r ∈ F ∨ w.heap.size ≤ r) : Off w' F' base e s v n xs :=
  ⟨ht.own h.1 h.2, fun r hr hc => by
    rcases hf r hc with h1 | h1
    · exact h.2 r hr h1
    · have := (h.1.lt r hr).2; omega⟩
end
end Go.Proofs.YtdoaniimfhpjhaaDoor
