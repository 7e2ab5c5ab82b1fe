/-
  A disk in memory; open, Create, Used, Free.
-/
import Derived.Test.YtdoaniimfhpjhaaFsD
namespace Go.Proofs.Ytdoaniimfhpjhaa
open Go.RowKit
set_option linter.unusedVariables false
set_option linter.unusedSimpArgs false
open Go.Maps
theorem FileAt.turn {F : List Nat} {w w' : World} {base : Nat} {h : HF} (hf : FileAt w base h) (ht : Turn F w w') (hn : ∀ r ∈ footH h, r ∉ F) : FileAt w' base h := by
  refine ⟨ht.blk hf.1 (hn _ (by simp [footH])), ht.ownC hf.2 fun r hr => hn r ?_⟩
  cases hA : h.2.2.1 with
  | none => rw [hA] at hr; simp [Value.ownBlock] at hr
  | some a => rw [hA] at hr; simp [Value.ownBlock] at hr; simp [footH, hA, hr]
theorem FileAt.ext {w w' : World} {base : Nat} {h : HF} (hf : FileAt w base h) (hx : Ext w w') : FileAt w' base h := hf.turn (hx.turn []) (fun _ _ hc => by cases hc)
theorem FsX.ext_ {W w w' : World} {g b : Nat} {d : Dk} {D : DataW Value} {hs : List HF} (h : FsX W w g d b D hs) (hx : Ext w w') : FsX W w' g d b D hs :=
  { ext := h.ext.tr hx, blk := hx.blk h.blk, own := (by obtain ⟨n, hn, ho⟩ := h.own; exact ⟨n, hn, (hx.turn []).map ho (by simp)⟩), map := h.map, fil := fun f hf => (h.fil f hf).ext hx, dis := h.dis, base := h.base, lt := fun r hr => Nat.lt_of_lt_of_le (h.lt r hr) hx.size, hsd := h.hsd, cnt := h.cnt }
theorem rightB_size {s : ByteArray} (h : rightB s = true) : s.size ≤ 24 := by
  unfold rightB at h
  simp only [Bool.and_eq_true, decide_eq_true_eq] at h
  exact h.1.2
set_option maxRecDepth 100000 in
set_option maxHeartbeats 2000000 in
theorem open_any (W w : World) (g b : Nat) (d : Dk) (D : DataW Value) (hs : List HF) (nm : ByteArray) (h : FsX W w g d b D hs) :
    Calls Try.prog 44 #[ptrV g, .string nm] w fun e w' => ∃ v, e = .returned (.tuple #[v, .int .i64 (openE d nm : Nat)]) ∧ Ext w w' ∧ (openE d nm = 0 → ∃ f ∈ hs, f.1.name = nm ∧ v = ptrV f.2.1) := by
  unfold ptrV
  have k6 : w.cell? ⟨g, 6, none⟩ = some (.bool d.down) := h.blk.cell 6
  have HF := Lib.hid h
  have R := Lib.hid (right_any nm)
  clear h
  by_cases hd : d.down = true
  · have ho : openE d nm = 3 := by unfold openE; rw [if_pos hd]
    rw [ho]
    rw [hd] at k6
    clear ho
    go_enter Try.func44, Try.ntmps44
    go_wp2_with fail
    go_ret2
    exact ⟨_, rfl, (by repeat (first | with_reducible exact Below.refl _ _ | with_reducible assumption | with_reducible refine ExtD ?_ | with_reducible refine ExtDN ?_ | with_reducible refine ExtA ?_ | (with_reducible refine ExtR ?_ ?_; (first | omega | (dsimp only; omega) | (simp; done) | (simp; omega))) | (with_reducible refine ExtS ?_ ?_; (first | omega | (dsimp only; omega) | (simp; done) | (simp; omega))) | with_reducible refine Ext.tr ?_ (by with_reducible assumption))), fun h => by cases h⟩
  · have hd' : d.down = false := by simpa using hd
    rw [hd'] at k6
    by_cases hr : rightB nm = false
    · have ho : openE d nm = 50 := by unfold openE; rw [if_neg hd, if_pos hr]
      rw [ho]
      rw [hr] at R
      clear ho
      go_enter Try.func44, Try.ntmps44
      go_wp2_with (go_at_call 41; (with_reducible refine (R.out _).mono ?_); rintro e w1 ⟨rfl, hx1⟩)
      go_ret2
      exact ⟨_, rfl, (by repeat (first | with_reducible exact Below.refl _ _ | with_reducible assumption | with_reducible refine ExtD ?_ | with_reducible refine ExtDN ?_ | with_reducible refine ExtA ?_ | (with_reducible refine ExtR ?_ ?_; (first | omega | (dsimp only; omega) | (simp; done) | (simp; omega))) | (with_reducible refine ExtS ?_ ?_; (first | omega | (dsimp only; omega) | (simp; done) | (simp; omega))) | with_reducible refine Ext.tr ?_ (by with_reducible assumption))), fun h => by cases h⟩
    · have hr' : rightB nm = true := by simpa using hr
      have hsz := rightB_size hr'
      rw [hr'] at R
      by_cases hin : (d.files.any fun f => decide (f.name = nm)) = true
      · have ho : openE d nm = 0 := by unfold openE; rw [if_neg hd, if_neg hr, if_pos hin]
        rw [ho]
        obtain ⟨f, hf, hfn⟩ : ∃ f ∈ hs, f.1.name = nm := by
          rw [← HF.out.hsd, List.any_eq_true] at hin
          obtain ⟨f, hf, hn⟩ := hin
          obtain ⟨h, hh, rfl⟩ := List.mem_map.1 hf
          exact ⟨h, hh, by simpa using hn⟩
        have Hl := Lib.hid fun (w1 : World) (hx : Ext w w1) => look_hit (HF.out.ext_ hx).own HF.out.map (nm := nm) (p := f.2.1) (List.mem_map.2 ⟨f, hf, by rw [hfn]⟩) (by simp only [maxLen]; omega)
        have Hf := Lib.hid hf
        unfold ptrV at Hl
        have k0 := Lib.hid fun (w1 : World) (hx : Ext w w1) => (HF.out.ext_ hx).blk.cell 0
        clear ho hin hf
        go_enter Try.func44, Try.ntmps44
        go_wp2_with (go_at_call 41; (with_reducible refine (R.out _).mono ?_); rintro e w1 ⟨rfl, hx1⟩; have k0 : w1.cell? ⟨g, 0, none⟩ = some (.map (some b)) := k0.out w1 hx1; have hl := Hl.out w1 hx1)
        go_ret2
        exact ⟨_, rfl, (by repeat (first | with_reducible exact Below.refl _ _ | with_reducible assumption | with_reducible refine ExtD ?_ | with_reducible refine ExtDN ?_ | with_reducible refine ExtA ?_ | (with_reducible refine ExtR ?_ ?_; (first | omega | (dsimp only; omega) | (simp; done) | (simp; omega))) | (with_reducible refine ExtS ?_ ?_; (first | omega | (dsimp only; omega) | (simp; done) | (simp; omega))) | with_reducible refine Ext.tr ?_ (by with_reducible assumption))), fun _ => ⟨f, Hf.out, hfn, rfl⟩⟩
      · have ho : openE d nm = 51 := by unfold openE; rw [if_neg hd, if_neg hr, if_neg hin]
        rw [ho]
        have Hl := Lib.hid fun (w1 : World) (hx : Ext w w1) => look_miss (HF.out.ext_ hx).own HF.out.map (nm := nm) (fun x hx hc => hin (by
          obtain ⟨f, hf, rfl⟩ := List.mem_map.1 hx
          rw [← HF.out.hsd, List.any_eq_true]
          exact ⟨f.1, List.mem_map.2 ⟨f, hf, rfl⟩, by simpa using hc⟩)) (by simp only [maxLen]; omega)
        have k0 := Lib.hid fun (w1 : World) (hx : Ext w w1) => (HF.out.ext_ hx).blk.cell 0
        clear ho hin
        go_enter Try.func44, Try.ntmps44
        go_wp2_with (go_at_call 41; (with_reducible refine (R.out _).mono ?_); rintro e w1 ⟨rfl, hx1⟩; have k0 : w1.cell? ⟨g, 0, none⟩ = some (.map (some b)) := k0.out w1 hx1; have hl := Hl.out w1 hx1)
        go_ret2
        exact ⟨_, rfl, (by repeat (first | with_reducible exact Below.refl _ _ | with_reducible assumption | with_reducible refine ExtD ?_ | with_reducible refine ExtDN ?_ | with_reducible refine ExtA ?_ | (with_reducible refine ExtR ?_ ?_; (first | omega | (dsimp only; omega) | (simp; done) | (simp; omega))) | (with_reducible refine ExtS ?_ ?_; (first | omega | (dsimp only; omega) | (simp; done) | (simp; omega))) | with_reducible refine Ext.tr ?_ (by with_reducible assumption))), fun h => by cases h⟩
end Go.Proofs.Ytdoaniimfhpjhaa
