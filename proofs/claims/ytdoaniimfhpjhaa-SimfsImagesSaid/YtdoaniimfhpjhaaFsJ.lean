/-
  A disk in memory; Read.
-/
import Derived.Test.YtdoaniimfhpjhaaFsI
namespace Go.Proofs.Ytdoaniimfhpjhaa
open Go.RowKit
set_option linter.unusedVariables false
set_option linter.unusedSimpArgs false
open Go.Maps
def IsI64 (x : Int) : Prop := -9223372036854775808 ≤ x ∧ x ≤ 9223372036854775807
def readD (d : Dk) (nm : ByteArray) (i n : Int) : Dk × List UInt8 × Nat :=
  if openE d nm ≠ 0 then (d, [], openE d nm) else
  let l := ((getF d nm).map (·.data)).getD []
  if i < 0 ∨ n < 0 ∨ (l.length : Int) < i ∨ (l.length : Int) - i < n then (d, [], 1) else ({ d with read := wrap64 (d.read + n) }, (l.drop i.toNat).take n.toNat, 0)
/-- New bytes as a call hands them out, behind what it did to the disk. -/
def GaveB (W w : World) (g b : Nat) (hs : List HF) (d' : Dk) (l : List UInt8) (E : Nat) (e : Ending) (w' : World) : Prop :=
  ∃ A c, e = .returned (.tuple #[.slice A l.length c, .int .i64 (E : Nat)]) ∧ FsTo W w w' g b hs d' ∧ w'.ownsRow w.heap.size 5 1 (.slice A l.length c) l.length (u8s l)
theorem OwnC.set_ {w : World} {base g n : Nat} {t : TypeId} {cs : Array Value} {v : Value} {l : List UInt8} (h1 : Blk w g t cs) (h2 : OwnC w base v n l) (ht : t ≠ 5) (i : Nat) (u : Value) : OwnC (w.setCell ⟨g, i, none⟩ u) base v n l :=
  Turn.ownC (F := [g]) (Turn.cell (by simp)) h2 (fun r hr hc => by
    simp at hc
    subst hc
    exact OwnC.ne h1 h2 ht hr.symm)
set_option maxRecDepth 100000 in
set_option maxHeartbeats 4000000 in
theorem read_any (W w : World) (g b : Nat) (d : Dk) (D : DataW Value) (hs : List HF) (nm : ByteArray) (i n : Int) (h : FsX W w g d b D hs) (hk : DkOk d) (hi : IsI64 i) (hn : IsI64 n) :
    Calls Try.prog 35 #[ptrV g, .string nm, .int .i64 i, .int .i64 n] w (GaveB W w g b hs (readD d nm i n).1 (readD d nm i n).2.1 (readD d nm i n).2.2) := by
  have HX := Lib.hid h
  unfold ptrV IsI64 at *
  by_cases h0 : openE d nm = 0
  · obtain ⟨l1, l2, fd, fs, p, A, c0, rfl⟩ := fs_found h h0
    have KO := Lib.hid (open_hit W w g b d D l1 l2 nm fd fs p A c0 h h0)
    have FA := Lib.hid fun (w1 : World) (hx : Ext w w1) => (HX.out.ext_ hx).fil (⟨nm, fd, fs⟩, p, A, c0) (by simp)
    have K4 := Lib.hid fun (w1 : World) (hx : Ext w w1) => (HX.out.ext_ hx).blk
    unfold FileAt filcells at FA
    dsimp only at FA
    have hlim : (fd.length : Int) ≤ 67108864 := by
      have := len_le_used hk (f := ⟨nm, fd, fs⟩) (by rw [← h.hsd]; exact List.mem_map.2 ⟨((⟨nm, fd, fs⟩, p, A, c0) : HF), by simp, rfl⟩)
      dsimp only at this
      have := hk.2.1; have := hk.2.2; omega
    have hg : getF d nm = some ⟨nm, fd, fs⟩ := getF_eq h (f := (⟨nm, fd, fs⟩, p, A, c0)) rfl
    by_cases hbad : i < 0 ∨ n < 0 ∨ (fd.length : Int) < i ∨ (fd.length : Int) - i < n
    · have hc : readD d nm i n = (d, [], 1) := by
        unfold readD
        rw [if_neg (by omega), hg]
        exact if_pos hbad
      rw [hc]
      obtain ⟨n0, hn0⟩ : ∃ n0, n0 = fd.length := ⟨_, rfl⟩
      rw [← hn0] at FA hlim hbad
      clear hc h hn0 hg hk
      unfold GaveB
      go_enter Try.func35, Try.ntmps35
      go_wp2_with (go_at_call 44; (with_reducible refine (KO.out).mono ?_); rintro e w1 ⟨rfl, hx1⟩; have q0 : w1.cell? ⟨p, 0, none⟩ = some (.slice A n0 c0) := (FA.out _ hx1).1.cell 0)
      all_goals first
        | (exfalso; omega)
        | (go_ret2; exact ⟨none, 0, rfl, HX.out.ext_to (by repeat (first | with_reducible exact Below.refl _ _ | with_reducible assumption | with_reducible refine ExtD ?_ | with_reducible refine ExtDN ?_ | with_reducible refine ExtA ?_ | (with_reducible refine ExtR ?_ ?_; (first | omega | (dsimp only; omega) | (simp; done) | (simp; omega))) | (with_reducible refine ExtS ?_ ?_; (first | omega | (dsimp only; omega) | (simp; done) | (simp; omega))) | with_reducible refine Ext.tr ?_ (by with_reducible assumption))), World.ownsRow_nil _ _ _ _⟩)
    · obtain ⟨j, rfl⟩ : ∃ j : Nat, i = (j : Nat) := ⟨i.toNat, by omega⟩
      obtain ⟨k, rfl⟩ : ∃ k : Nat, n = (k : Nat) := ⟨n.toNat, by omega⟩
      have hjk : j + k ≤ fd.length := by omega
      have hc : readD d nm (j : Nat) (k : Nat) = ({ d with read := wrap64 (d.read + (k : Nat)) }, (fd.drop j).take k, 0) := by
        unfold readD
        rw [if_neg (by omega), hg]
        exact (if_neg hbad).trans (by simp)
      rw [hc]
      have hcap : fd.length ≤ c0 ∧ c0 ≤ maxLen := by
        rcases (h.fil (⟨nm, fd, fs⟩, p, A, c0) (by simp)).2.2 with ⟨hv, h2⟩ | ⟨g2, cap, cur, hv, _, _, h2, h3, _⟩
        · injection hv with _ h3 h4; dsimp only at h2 h4; omega
        · injection hv with _ h5 h4; dsimp only at h2 h4; subst h4; exact ⟨h2, h3⟩
      obtain ⟨A2, hrun, hrd⟩ := slice_lh A fd.length c0 j (j + k) (by omega) hjk hcap.1
      have e1 : j + k - j = k := by omega
      rw [e1] at hrun hrd
      have hlk : ((fd.drop j).take k).length = k := by rw [List.length_take, List.length_drop]; omega
      have KC := Lib.hid fun (w2 : World) (hr : Rd w2 A2 k (u8s ((fd.drop j).take k))) => clone_any A2 k (c0 - j) ((fd.drop j).take k) w2 hr (by omega)
      unfold NewB at KC
      rw [hlk] at KC
      have Hrun := Lib.hid hrun
      have Hrd := Lib.hid hrd
      obtain ⟨n0, hn0⟩ : ∃ n0, n0 = fd.length := ⟨_, rfl⟩
      rw [← hn0] at FA hlim hbad hjk Hrun Hrd
      have Hn := Lib.hid hn0
      have hjn : (j : Int) + (k : Int) ≤ (n0 : Int) := by omega
      have d1 : decide (n0 < j) = false := by simp; omega
      have d2 : decide ((n0 : Int) - (j : Int) < (k : Int)) = false := by simp; omega
      have hrun : ∀ W : World, (Instr.slice 31 (.slice A n0 c0) (some (.int .i64 (j : Nat))) (some (.int .i64 ((j : Int) + (k : Int)))) none).run Try.prog W = .ok (.slice A2 k (c0 - j)) W := Hrun.out
      clear hc h hn0 hg hk hrd hbad hcap hjk e1 Hrun
      unfold GaveB
      rw [hlk]
      go_enter Try.func35, Try.ntmps35
      go_wp2_with (first
        | (go_at_call 44; (with_reducible refine (KO.out).mono ?_); rintro e w1 ⟨rfl, hx1⟩; have hF := FA.out _ hx1; have hB := K4.out _ hx1; have q0 : w1.cell? ⟨p, 0, none⟩ = some (.slice A n0 c0) := hF.1.cell 0; have q4 : w1.cell? ⟨g, 4, none⟩ = some (.int .i64 d.read) := hB.cell 4; have qf := hB.frozen 4)
        | (go_at_call 42; go_loud ((with_reducible refine (KC.out _ (Hrd.out _ _ (OwnC.set_ hB hF.2 (by decide) 4 _).rd)).mono ?_); rintro e w2 ⟨A3, c3, rfl, hx3, hown3⟩)))
      go_ret2
      have hX2 := (((HX.out.ext_ hx1).cells (d' := { d with read := wrap64 (d.read + (k : Nat)) }) (Blk_eq (BlkS hB) (by simp [fscells])) (grown_setF (grown_rfl w1 g)) rfl).ext_ hx3)
      refine ⟨A3, c3, rfl, hX2.to (((hx1.turn _).tr (Turn.cell foot_g)).tr (hx3.turn _)), own_base hown3 ?_⟩
      have := hx1.size
      simpa using this
  · have KO := Lib.hid (open_bad W w g b d D hs nm _ h rfl)
    have hc : readD d nm i n = (d, [], openE d nm) := by unfold readD; rw [if_pos h0]
    rw [hc]
    have e2 : (((openE d nm : Nat) : Int) != 0) = true := by simp; omega
    clear hc h
    unfold GaveB
    generalize openE d nm = E at *
    go_enter Try.func35, Try.ntmps35
    go_wp2_with (go_at_call 44; (with_reducible refine (KO.out).mono ?_); rintro e w1 ⟨v, rfl, hx1⟩)
    go_ret2
    exact ⟨none, 0, rfl, HX.out.ext_to (by repeat (first | with_reducible exact Below.refl _ _ | with_reducible assumption | with_reducible refine ExtD ?_ | with_reducible refine ExtDN ?_ | with_reducible refine ExtA ?_ | (with_reducible refine ExtR ?_ ?_; (first | omega | (dsimp only; omega) | (simp; done) | (simp; omega))) | (with_reducible refine ExtS ?_ ?_; (first | omega | (dsimp only; omega) | (simp; done) | (simp; omega))) | with_reducible refine Ext.tr ?_ (by with_reducible assumption))), World.ownsRow_nil _ _ _ _⟩
end Go.Proofs.Ytdoaniimfhpjhaa
