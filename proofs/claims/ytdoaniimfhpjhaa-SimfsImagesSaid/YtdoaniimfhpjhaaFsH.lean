/-
  A disk in memory; Sync, Size, Fuse, Down, Steps, ReadBytes.
-/
import Derived.Test.YtdoaniimfhpjhaaFsG
namespace Go.Proofs.Ytdoaniimfhpjhaa
open Go.RowKit
set_option linter.unusedVariables false
set_option linter.unusedSimpArgs false
open Go.Maps
def syncD (d : Dk) (nm : ByteArray) : Dk × Nat :=
  if openE d nm ≠ 0 then (d, openE d nm) else if (stepD d).2 = true then ({ (stepD d).1 with files := dataD d nm (fun f => { f with safe := f.data.length }) }, 0) else ((stepD d).1, 3)
/-- What a call on a file finds: the file, and the walk's facts. -/
theorem fs_found {W w : World} {g b : Nat} {d : Dk} {D : DataW Value} {hs : List HF} {nm : ByteArray} (h : FsX W w g d b D hs) (h0 : openE d nm = 0) :
    ∃ l1 l2 fd fs p A c0, hs = l1 ++ (⟨nm, fd, fs⟩, p, A, c0) :: l2 := by
  obtain ⟨f, hfm, hfn⟩ := openE_hit h h0
  obtain ⟨l1, l2, rfl⟩ := List.append_of_mem hfm
  obtain ⟨⟨fn, fd, fs⟩, p, A, c0⟩ := f
  have hfn : fn = nm := hfn
  subst hfn
  exact ⟨l1, l2, fd, fs, p, A, c0, rfl⟩
theorem open_hit (W w : World) (g b : Nat) (d : Dk) (D : DataW Value) (l1 l2 : List HF) (nm : ByteArray) (fd : List UInt8) (fs p : Nat) (A : Option Addr) (c0 : Nat) (h : FsX W w g d b D (l1 ++ (⟨nm, fd, fs⟩, p, A, c0) :: l2)) (h0 : openE d nm = 0) :
    Calls Try.prog 44 #[.pointer (some ⟨g, 0, none⟩), .string nm] w fun e w' => e = .returned (.tuple #[.pointer (some ⟨p, 0, none⟩), .int .i64 0]) ∧ Ext w w' := by
  refine (open_any W w g b d D _ nm h).mono ?_
  rintro e w' ⟨v, rfl, hx, hv⟩
  obtain ⟨f2, hf2, hn2, hv⟩ := hv h0
  have he := name_one h.map hf2 hn2
  rw [he] at hv
  rw [hv, h0]
  exact ⟨rfl, hx⟩
theorem open_bad (W w : World) (g b : Nat) (d : Dk) (D : DataW Value) (hs : List HF) (nm : ByteArray) (E : Nat) (h : FsX W w g d b D hs) (h0 : openE d nm = E) :
    Calls Try.prog 44 #[.pointer (some ⟨g, 0, none⟩), .string nm] w fun e w' => ∃ v, e = .returned (.tuple #[v, .int .i64 (E : Nat)]) ∧ Ext w w' := by
  refine (open_any W w g b d D _ nm h).mono ?_
  rintro e w' ⟨v, rfl, hx, hv⟩
  rw [h0]
  exact ⟨v, rfl, hx⟩
theorem step_at (W w : World) (g b : Nat) (d : Dk) (D : DataW Value) (hs : List HF) (up : Bool) (hd : DkNum d) (hup : (stepD d).2 = up) (h : FsX W w g d b D hs) :
    Calls Try.prog 45 #[.pointer (some ⟨g, 0, none⟩)] w fun e w' => e = .returned (.bool up) ∧ FsX W w' g (stepD d).1 b D hs ∧ Turn [g] w w' := by
  refine (step_any g b d w h.blk hd).mono ?_
  rintro e w' ⟨rfl, hb, hg⟩
  rw [hup]
  exact ⟨rfl, h.cells hb hg (stepD_files d), grown_turn hg (fun r hr => by injection hr with hr; subst hr; exact .inl (by simp))⟩
theorem turn_g {g b : Nat} {hs : List HF} {w w' : World} (h : Turn [g] w w') : Turn (foot g b hs) w w' := h.mono fun r hr => by simp at hr; subst hr; exact .inl foot_g
/-- A disk that has only been stepped, as what a call leaves. -/
theorem FsX.to {W w w' : World} {g b : Nat} {d' : Dk} {D : DataW Value} {hs : List HF} (h : FsX W w' g d' b D hs) (ht : Turn (foot g b hs) w w') : FsTo W w w' g b hs d' := ⟨D, hs, h, ht, fun _ hr => .inl hr⟩
theorem FsTo.before {W w w' w2 : World} {g b : Nat} {d : Dk} {hs : List HF} (h : FsTo W w' w2 g b hs d) (ht : Turn (foot g b hs) w w') : FsTo W w w2 g b hs d := by
  obtain ⟨D, hs', h1, h2, h3⟩ := h
  exact ⟨D, hs', h1, ht.tr h2, fun r hr => (h3 r hr).imp id fun hk => Nat.le_trans ht.size hk⟩
theorem dataD_step (d : Dk) (nm : ByteArray) (k : Fil → Fil) : dataD (stepD d).1 nm k = dataD d nm k := by unfold dataD; rw [stepD_files]
set_option maxRecDepth 100000 in
set_option maxHeartbeats 4000000 in
theorem sync_any (W w : World) (g b : Nat) (d : Dk) (D : DataW Value) (hs : List HF) (nm : ByteArray) (h : FsX W w g d b D hs) (hd : DkNum d) :
    Calls Try.prog 31 #[ptrV g, .string nm] w fun e w' => e = .returned (.int .i64 ((syncD d nm).2 : Nat)) ∧ FsTo W w w' g b hs (syncD d nm).1 := by
  have HX := Lib.hid h
  unfold ptrV
  by_cases h0 : openE d nm = 0
  · obtain ⟨l1, l2, fd, fs, p, A, c0, rfl⟩ := fs_found h h0
    have KO := Lib.hid (open_hit W w g b d D l1 l2 nm fd fs p A c0 h h0)
    obtain ⟨up, hup⟩ : ∃ up, (stepD d).2 = up := ⟨_, rfl⟩
    have KS := Lib.hid fun (w1 : World) (hx : Ext w w1) => step_at W w1 g b d D _ up hd hup (HX.out.ext_ hx)
    have FA := Lib.hid fun (w1 : World) (d' : Dk) (hX : FsX W w1 g d' b D (l1 ++ (⟨nm, fd, fs⟩, p, A, c0) :: l2)) => (hX.fil (⟨nm, fd, fs⟩, p, A, c0) (by simp)).1
    unfold filcells at FA
    dsimp only at FA
    cases up
    · have hc : syncD d nm = ((stepD d).1, 3) := by unfold syncD; rw [if_neg (by omega), if_neg (by simp [hup])]
      rw [hc]
      clear hc h
      go_enter Try.func31, Try.ntmps31
      go_wp2_with (first
        | (go_at_call 44; (with_reducible refine (KO.out).mono ?_); rintro e w1 ⟨rfl, hx1⟩)
        | (go_at_call 45; (with_reducible refine (KS.out _ hx1).mono ?_); rintro e w2 ⟨rfl, hX2, ht2⟩))
      go_ret
      exact ⟨rfl, hX2.to ((hx1.turn _).tr (turn_g ht2))⟩
    · have hc : syncD d nm = ({ (stepD d).1 with files := dataD d nm (fun f => { f with safe := f.data.length }) }, 0) := by unfold syncD; rw [if_neg (by omega), if_pos hup]
      rw [hc]
      obtain ⟨n0, hn0⟩ : ∃ n0, n0 = fd.length := ⟨_, rfl⟩
      rw [← hn0] at FA
      have Hn := Lib.hid hn0
      clear hc h hn0
      go_enter Try.func31, Try.ntmps31
      go_wp2_with (first
        | (go_at_call 44; (with_reducible refine (KO.out).mono ?_); rintro e w1 ⟨rfl, hx1⟩)
        | (go_at_call 45; (with_reducible refine (KS.out _ hx1).mono ?_); rintro e w2 ⟨rfl, hX2, ht2⟩; have hF := FA.out _ _ hX2; have q0 : w2.cell? ⟨p, 0, none⟩ = some (.slice A n0 c0) := hF.cell 0; have q1 : w2.cell? ⟨p, 1, none⟩ = some (.int .i64 (fs : Nat)) := hF.cell 1; have qf := hF.frozen 1))
      go_ret
      refine ⟨rfl, FsTo.before ?_ ((hx1.turn _).tr (turn_g ht2))⟩
      refine fs_data (f' := (⟨nm, fd, fd.length⟩, p, A, c0)) hX2 rfl rfl (Turn.cell (by simp [footH])) (Blk_eq (BlkF ((foot_gh hX2.dis (h := (⟨nm, fd, fs⟩, p, A, c0)) (by simp) (r := p) (by simp [footH])).1.symm) hX2.blk) (by simp [fscells])) ⟨Blk_eq (BlkS hF) (by simp [filcells, Hn.out]), ?_⟩ (fun r hr => .inl hr) ?_
      · have h2 := (hX2.fil (⟨nm, fd, fs⟩, p, A, c0) (by simp)).2
        exact Turn.ownC (F := [p]) (Turn.cell (by simp)) h2 (fun r hr hc => OwnC.ne hF h2 (by decide) (by simp at hc; subst hc; exact hr.symm))
      · rw [← dataD_step]
        exact dataD_eq hX2 rfl _ _
  · have KO := Lib.hid (open_bad W w g b d D hs nm _ h rfl)
    have hc : syncD d nm = (d, openE d nm) := by unfold syncD; rw [if_pos h0]
    rw [hc]
    have e2 : (((openE d nm : Nat) : Int) != 0) = true := by simp; omega
    clear hc h
    generalize openE d nm = E at *
    go_enter Try.func31, Try.ntmps31
    go_wp2_with (go_at_call 44; (with_reducible refine (KO.out).mono ?_); rintro e w1 ⟨v, rfl, hx1⟩)
    go_ret
    exact ⟨rfl, HX.out.ext_to (by repeat (first | with_reducible exact Below.refl _ _ | with_reducible assumption | with_reducible refine ExtD ?_ | with_reducible refine ExtDN ?_ | with_reducible refine ExtA ?_ | (with_reducible refine ExtR ?_ ?_; (first | omega | (dsimp only; omega) | (simp; done) | (simp; omega))) | (with_reducible refine ExtS ?_ ?_; (first | omega | (dsimp only; omega) | (simp; done) | (simp; omega))) | with_reducible refine Ext.tr ?_ (by with_reducible assumption)))⟩
end Go.Proofs.Ytdoaniimfhpjhaa
