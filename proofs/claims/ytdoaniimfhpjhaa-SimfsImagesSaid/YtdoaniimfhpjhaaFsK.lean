/-
  A disk in memory; Remove, Cut.
-/
import Derived.Test.YtdoaniimfhpjhaaFsJ
import Derived.StillTailTactics
import Derived.Test.YtdoaniimfhpjhaaHandS
namespace Go.Proofs.Ytdoaniimfhpjhaa
open Go.RowKit
set_option linter.unusedVariables false
set_option linter.unusedSimpArgs false
open Go.Maps
def lenF (d : Dk) (nm : ByteArray) : Nat := ((getF d nm).map (·.data.length)).getD 0
def removeD (d : Dk) (nm : ByteArray) : Dk × Nat :=
  if openE d nm ≠ 0 then (d, openE d nm) else if (stepD d).2 = true then ({ (stepD d).1 with files := d.files.filter (fun f => decide (f.name ≠ nm)), used := d.used - (lenF d nm : Nat) }, 0) else ((stepD d).1, 3)
theorem map_del {D : DataW Value} {l : List (ByteArray × Nat)} (h : MapL D l) (nm : ByteArray) : MapL (D.del (nmLit nm)) (l.filter fun x => decide (x.1 ≠ nm)) := by
  obtain ⟨h1, h2, h3, h4, h5⟩ := h
  have hnd : (l.filter fun x => decide (x.1 ≠ nm)).length + (if l.any (fun p => decide (p.1 = nm)) then 1 else 0) = l.length := by
    clear h2 h4 h5
    induction l with
    | nil => rfl
    | cons a l ih =>
      rw [List.map_cons, List.nodup_cons] at h3
      have ih := ih h3.2
      by_cases ha : a.1 = nm
      · have hno : l.any (fun p => decide (p.1 = nm)) = false := by
          rw [List.any_eq_false]
          intro x hx hc
          exact h3.1 (List.mem_map.2 ⟨x, hx, by rw [ha]; simpa using hc⟩)
        rw [hno] at ih
        simp [ha] at ih ⊢
        exact ih
      · rw [List.filter_cons_of_pos (by simpa using ha), List.any_cons, show decide (a.1 = nm) = false by simpa using ha, Bool.false_or, List.length_cons, List.length_cons]
        omega
  refine ⟨h1.del _, ?_, ?_, fun k => ?_, fun k q hq z => ?_⟩
  · have := size_del (k := nmLit nm) h1
    rw [h4] at this
    omega
  · exact (List.Sublist.map _ List.filter_sublist).nodup h3
  · by_cases hk : k = nm
    · subst hk
      rw [has_del_same]
      symm
      rw [List.any_eq_false]
      intro x hx
      have := (List.mem_filter.1 hx).2
      simpa using this
    · rw [has_del_other (fun hc => hk (nmLit_inj hc)), h4]
      rw [Bool.eq_iff_iff]
      simp only [List.any_eq_true, List.mem_filter, decide_eq_true_eq]
      constructor
      · rintro ⟨x, hx, rfl⟩
        exact ⟨x, ⟨hx, hk⟩, rfl⟩
      · rintro ⟨x, ⟨hx, _⟩, rfl⟩
        exact ⟨x, hx, rfl⟩
  · have hq2 := List.mem_filter.1 hq
    rw [atKey_del_other (fun hc => by simp at hq2; exact hq2.2 (nmLit_inj hc))]
    exact h5 k q hq2.1 z
theorem map_drop {w : World} {b : Nat} {D : DataW Value} (ho : OwnM w b D) {nm : ByteArray} (hs : nm.size ≤ maxLen) (ty : TypeId) :
    ∃ w', (Builtin.delete_ #[55, 9] ty #[.map (some b), .string nm]).run Try.prog w = .ok (.tuple #[]) w' ∧ OwnM w' b (D.del (nmLit nm)) ∧ w.grownBy w' (some b) := by
  obtain ⟨n, hn, ho⟩ := ho
  obtain ⟨w', h1, h2, es, clock, es', clock', h3, rfl⟩ := ho.drop key_law Try.underlying55 (key_str nm hs) ty
  exact ⟨_, h1, ⟨n, hn, h2⟩, ⟨rfl, rfl, rfl, by simp [ChangeMaps.setBlock], fun i _ hi => ChangeMaps.heap_setBlock_other h3 _ (fun e => hi (by rw [e]))⟩⟩
theorem flat_sub {q : HF → Bool} : ∀ l : List HF, ((l.filter q).flatMap footH).Sublist (l.flatMap footH)
  | [] => List.Sublist.slnil
  | a :: l => by
    rw [List.filter_cons, List.flatMap_cons]
    split
    · rw [List.flatMap_cons]
      exact (List.Sublist.refl _).append (flat_sub l)
    · exact (flat_sub l).trans (List.sublist_append_right _ _)
theorem foot_sub (g b : Nat) (q : HF → Bool) (l : List HF) : (foot g b (l.filter q)).Sublist (foot g b l) := ((flat_sub l).cons_cons b).cons_cons g
/-- Files are gone: the map, and the disk's own cells. -/
theorem fs_drop {W w w' : World} {g b : Nat} {d d' : Dk} {D D' : DataW Value} {hs : List HF} (q : HF → Bool) (h : FsX W w g d b D hs) (ht : Turn [g, b] w w') (hb : Blk w' g 57 (fscells b d')) (ho : OwnM w' b D')
    (hm : MapL D' ((hs.filter q).map fun h => (h.1.name, h.2.1))) (hd : d'.files = (hs.filter q).map (·.1)) : FsTo W w w' g b hs d' := by
  have hsub := foot_sub g b q hs
  have hF : ∀ r ∈ [g, b], r ∈ foot g b hs := fun r hr => by simp at hr; rcases hr with rfl | rfl; exact foot_g; exact foot_b
  refine ⟨D', hs.filter q, { ext := ht.ext h.ext (fun r hr => h.base r (hF r hr)), blk := hb, own := ho, map := hm, fil := fun k hk => ?_, dis := hsub.nodup h.dis, base := fun r hr => h.base r (hsub.subset hr), lt := fun r hr => Nat.lt_of_lt_of_le (h.lt r (hsub.subset hr)) ht.size, hsd := hd.symm, cnt := Nat.le_trans (List.length_filter_le _ _) h.cnt }, ht.mono (fun r hr => .inl (hF r hr)), fun r hr => .inl (hsub.subset hr)⟩
  have hk' := (List.mem_filter.1 hk).1
  refine (h.fil k hk').turn ht fun r hr hc => ?_
  have := foot_gh h.dis hk' hr
  simp at hc
  rcases hc with hc | hc
  · exact this.1 hc
  · exact this.2 hc
theorem openE_right {d : Dk} {nm : ByteArray} (h : openE d nm = 0) : rightB nm = true := by
  unfold openE at h
  split at h
  · omega
  · split at h
    · omega
    · rename_i h2; simpa using h2
set_option maxRecDepth 100000 in
set_option maxHeartbeats 4000000 in
theorem remove_any (W w : World) (g b : Nat) (d : Dk) (D : DataW Value) (hs : List HF) (nm : ByteArray) (h : FsX W w g d b D hs) (hd : DkNum d) (hk : DkOk d) :
    Calls Try.prog 33 #[ptrV g, .string nm] w fun e w' => e = .returned (.int .i64 ((removeD d nm).2 : Nat)) ∧ FsTo W w w' g b hs (removeD d nm).1 := by
  have HX := Lib.hid h
  unfold ptrV
  by_cases h0 : openE d nm = 0
  · obtain ⟨l1, l2, fd, fs, p, A, c0, rfl⟩ := fs_found h h0
    have KO := Lib.hid (open_hit W w g b d D l1 l2 nm fd fs p A c0 h h0)
    obtain ⟨up, hup⟩ : ∃ up, (stepD d).2 = up := ⟨_, rfl⟩
    have KS := Lib.hid fun (w1 : World) (hx : Ext w w1) => step_at W w1 g b d D _ up hd hup (HX.out.ext_ hx)
    have FA := Lib.hid fun (w1 : World) (d' : Dk) (hX : FsX W w1 g d' b D (l1 ++ (⟨nm, fd, fs⟩, p, A, c0) :: l2)) => (hX.fil (⟨nm, fd, fs⟩, p, A, c0) (by simp)).1
    unfold filcells at FA
    dsimp only at FA
    cases up
    · have hc : removeD d nm = ((stepD d).1, 3) := by unfold removeD; rw [if_neg (by omega), if_neg (by simp [hup])]
      rw [hc]
      clear hc h
      go_enter Try.func33, Try.ntmps33
      go_wp2_with (first
        | (go_at_call 44; (with_reducible refine (KO.out).mono ?_); rintro e w1 ⟨rfl, hx1⟩)
        | (go_at_call 45; (with_reducible refine (KS.out _ hx1).mono ?_); rintro e w2 ⟨rfl, hX2, ht2⟩))
      go_ret
      exact ⟨rfl, hX2.to ((hx1.turn _).tr (turn_g ht2))⟩
    · have hl : lenF d nm = fd.length := by unfold lenF; rw [getF_eq h (f := (⟨nm, fd, fs⟩, p, A, c0)) rfl]; rfl
      have hc : removeD d nm = ({ (stepD d).1 with files := d.files.filter (fun f => decide (f.name ≠ nm)), used := d.used - (fd.length : Nat) }, 0) := by unfold removeD; rw [if_neg (by omega), if_pos hup, hl]
      rw [hc]
      have hlim : (fd.length : Int) ≤ d.used ∧ d.used ≤ 67108864 := by
        have := len_le_used hk (f := ⟨nm, fd, fs⟩) (by rw [← h.hsd]; exact List.mem_map.2 ⟨((⟨nm, fd, fs⟩, p, A, c0) : HF), by simp, rfl⟩)
        dsimp only at this
        have := hk.2.1; have := hk.2.2; omega
      obtain ⟨n0, hn0⟩ : ∃ n0, n0 = fd.length := ⟨_, rfl⟩
      rw [← hn0] at FA hlim ⊢
      have hsz : nm.size ≤ maxLen := by simp only [maxLen]; have := rightB_size (openE_right h0); omega
      have hsu := stepD_used d
      have hwr : IntKind.i64.wrap (d.used - (n0 : Int)) = d.used - (n0 : Int) := by rw [IntKind.wrap_i64]; omega
      clear hc h hl hk hn0
      go_enter Try.func33, Try.ntmps33
      go_wp2_with (first
        | (go_at_call 44; (with_reducible refine (KO.out).mono ?_); rintro e w1 ⟨rfl, hx1⟩)
        | (go_at_call 45; (with_reducible refine (KS.out _ hx1).mono ?_); rintro e w2 ⟨rfl, hX2, ht2⟩; have hF := FA.out _ _ hX2; have hB := hX2.blk; have q0 : w2.cell? ⟨p, 0, none⟩ = some (.slice A n0 c0) := hF.cell 0; have q2 : w2.cell? ⟨g, 2, none⟩ = some (.int .i64 d.used) := (hB.cell 2).trans (by rw [← hsu]; rfl); have qf := hB.frozen 2))
      go_still_tail 12, (by kernel_rfl)
      change wpList _ _ _ _ _ w2.drew
      have hX3 := hX2.ext_ (ExtD (Ext.rfl' w2))
      have ht3 := ht2.tr ((ExtD (Ext.rfl' w2)).turn [g])
      have hF3 := FA.out _ _ hX3
      clear hF hB q0 q2 qf hX2 ht2
      generalize w2.drew = w3 at *
      have hB := hX3.blk
      have q0 : w3.cell? ⟨p, 0, none⟩ = some (.slice A n0 c0) := hF3.cell 0
      have q2 : w3.cell? ⟨g, 2, none⟩ = some (.int .i64 d.used) := (hB.cell 2).trans (by rw [← hsu]; rfl)
      have q1 : w3.cell? ⟨g, 0, none⟩ = some (.map (some b)) := hB.cell 0
      have qf := hB.frozen 2
      have hX4 : FsX W (w3.setCell ⟨g, 2, none⟩ (.int .i64 (d.used - (n0 : Nat)))) g { (stepD d).1 with used := d.used - (n0 : Nat) } b D _ := hX3.cells (Blk_eq (BlkS hX3.blk) (by simp [fscells])) (grown_setF (grown_rfl w3 g)) rfl
      obtain ⟨w4, hrun, hown, hgr⟩ := map_drop hX4.own (nm := nm) hsz 0
      go_wp2_with fail
      go_ret
      refine ⟨rfl, FsTo.before (FsTo.before (w' := w3.setCell ⟨g, 2, none⟩ (.int .i64 (d.used - (n0 : Nat)))) ?_ (Turn.cell (by exact foot_g))) ((hx1.turn _).tr (turn_g ht3))⟩
      have hgb := foot_gb hX4.dis
      refine fs_drop (fun h => decide (h.1.name ≠ nm)) hX4 (grown_turn hgr (fun r hr => by injection hr with hr; subst hr; exact .inl (by simp))) (BlkG hX4.blk hgr (by intro hc; injection hc with hc; exact hgb hc)) hown ?_ ?_
      · have := map_del hX4.map nm
        rw [List.filter_map] at this
        exact this
      · show d.files.filter _ = _
        rw [← HX.out.hsd, List.filter_map]
        simp [Function.comp_def]
  · have KO := Lib.hid (open_bad W w g b d D hs nm _ h rfl)
    have hc : removeD d nm = (d, openE d nm) := by unfold removeD; rw [if_pos h0]
    rw [hc]
    have e2 : (((openE d nm : Nat) : Int) != 0) = true := by simp; omega
    clear hc h
    generalize openE d nm = E at *
    go_enter Try.func33, Try.ntmps33
    go_wp2_with (go_at_call 44; (with_reducible refine (KO.out).mono ?_); rintro e w1 ⟨v, rfl, hx1⟩)
    go_ret
    exact ⟨rfl, HX.out.ext_to (by repeat (first | with_reducible exact Below.refl _ _ | with_reducible assumption | with_reducible refine ExtD ?_ | with_reducible refine ExtDN ?_ | with_reducible refine ExtA ?_ | (with_reducible refine ExtR ?_ ?_; (first | omega | (dsimp only; omega) | (simp; done) | (simp; omega))) | (with_reducible refine ExtS ?_ ?_; (first | omega | (dsimp only; omega) | (simp; done) | (simp; omega))) | with_reducible refine Ext.tr ?_ (by with_reducible assumption)))⟩
end Go.Proofs.Ytdoaniimfhpjhaa
