/-
  Read, once more: the disk keeps its own blocks, the bytes lie in none of them.
-/
import Derived.Test.YtomnllkliifeoaaSpA
namespace Go.Proofs.Ytomnllkliifeoaa
open Go.RowKit
set_option linter.unusedVariables false
set_option linter.unusedSimpArgs false
open Go.Maps
def GaveR (W w : World) (g b : Nat) (D : DataW Value) (hs : List HF) (d' : Dk) (l : List UInt8) (E : Nat) (e : Ending) (w' : World) : Prop :=
  ∃ A c, e = .returned (.tuple #[.slice A l.length c, .int .i64 (E : Nat)]) ∧ FsX W w' g d' b D hs ∧ Turn (foot g b hs) w w' ∧ w'.ownsRow w.heap.size 5 1 (.slice A l.length c) l.length (u8s l)
set_option maxRecDepth 100000 in
set_option maxHeartbeats 4000000 in
theorem readX_any (W w : World) (g b : Nat) (d : Dk) (D : DataW Value) (hs : List HF) (nm : ByteArray) (i n : Int) (h : FsX W w g d b D hs) (hk : DkOk d) (hi : IsI64 i) (hn : IsI64 n) :
    Calls Try.prog 23 #[ptrV g, .string nm, .int .i64 i, .int .i64 n] w (GaveR W w g b D hs (readD d nm i n).1 (readD d nm i n).2.1 (readD d nm i n).2.2) := by
  have HX := Lib.hid h
  unfold ptrV IsI64 at *
  by_cases h0 : openE d nm = 0
  · obtain ⟨l1, l2, fd, fs, p, A, c0, rfl⟩ := fs_found h h0
    have KO := Lib.hid (open_hit W w g b d D l1 l2 nm fd fs p A c0 h h0)
    have FA := Lib.hid fun (w1 : World) (hx : Ext w w1) => (HX.out.ext_ hx).fil (⟨nm, fd, fs⟩, p, A, c0) (by simp)
    have K4 := Lib.hid fun (w1 : World) (hx : Ext w w1) => (HX.out.ext_ hx).blk
    unfold FileAt filcells at FA
    dsimp only at FA
    have hlim : (fd.length : Int) ≤ 67108864 := by
      have := len_le_used hk (f := ⟨nm, fd, fs⟩) (by rw [← h.hsd]; exact List.mem_map.2 ⟨((⟨nm, fd, fs⟩, p, A, c0) : HF), by simp, rfl⟩)
      dsimp only at this
      have := hk.2.1; have := hk.2.2; omega
    have hg : getF d nm = some ⟨nm, fd, fs⟩ := getF_eq h (f := (⟨nm, fd, fs⟩, p, A, c0)) rfl
    by_cases hbad : i < 0 ∨ n < 0 ∨ (fd.length : Int) < i ∨ (fd.length : Int) - i < n
    · have hc : readD d nm i n = (d, [], 1) := by
        unfold readD
        rw [if_neg (by omega), hg]
        exact if_pos hbad
      rw [hc]
      obtain ⟨n0, hn0⟩ : ∃ n0, n0 = fd.length := ⟨_, rfl⟩
      rw [← hn0] at FA hlim hbad
      clear hc h hn0 hg hk
      unfold GaveR
      go_enter Try.func23, Try.ntmps23
      go_wp2_with (go_at_call 44; (with_reducible refine (KO.out).mono ?_); rintro e w1 ⟨rfl, hx1⟩; have q0 : w1.cell? ⟨p, 0, none⟩ = some (.slice A n0 c0) := (FA.out _ hx1).1.cell 0)
      all_goals first
        | (exfalso; omega)
        | (go_ret2; exact ⟨none, 0, rfl, HX.out.ext_ (by repeat (first | with_reducible exact Below.refl _ _ | with_reducible assumption | with_reducible refine ExtD ?_ | with_reducible refine ExtDN ?_ | with_reducible refine ExtA ?_ | (with_reducible refine ExtR ?_ ?_; (first | omega | (dsimp only; omega) | (simp; done) | (simp; omega))) | (with_reducible refine ExtS ?_ ?_; (first | omega | (dsimp only; omega) | (simp; done) | (simp; omega))) | with_reducible refine Ext.tr ?_ (by with_reducible assumption))), Ext.turn (by repeat (first | with_reducible exact Below.refl _ _ | with_reducible assumption | with_reducible refine ExtD ?_ | with_reducible refine ExtDN ?_ | with_reducible refine ExtA ?_ | (with_reducible refine ExtR ?_ ?_; (first | omega | (dsimp only; omega) | (simp; done) | (simp; omega))) | (with_reducible refine ExtS ?_ ?_; (first | omega | (dsimp only; omega) | (simp; done) | (simp; omega))) | with_reducible refine Ext.tr ?_ (by with_reducible assumption))) _, World.ownsRow_nil _ _ _ _⟩)
    · obtain ⟨j, rfl⟩ : ∃ j : Nat, i = (j : Nat) := ⟨i.toNat, by omega⟩
      obtain ⟨k, rfl⟩ : ∃ k : Nat, n = (k : Nat) := ⟨n.toNat, by omega⟩
      have hjk : j + k ≤ fd.length := by omega
      have hc : readD d nm (j : Nat) (k : Nat) = ({ d with read := wrap64 (d.read + (k : Nat)) }, (fd.drop j).take k, 0) := by
        unfold readD
        rw [if_neg (by omega), hg]
        exact (if_neg hbad).trans (by simp)
      rw [hc]
      have hcap : fd.length ≤ c0 ∧ c0 ≤ maxLen := by
        rcases (h.fil (⟨nm, fd, fs⟩, p, A, c0) (by simp)).2.2 with ⟨hv, h2⟩ | ⟨g2, cap, cur, hv, _, _, h2, h3, _⟩
        · injection hv with _ h3 h4; dsimp only at h2 h4; omega
        · injection hv with _ h5 h4; dsimp only at h2 h4; subst h4; exact ⟨h2, h3⟩
      obtain ⟨A2, hrun, hrd⟩ := slice_lh A fd.length c0 j (j + k) (by omega) hjk hcap.1
      have e1 : j + k - j = k := by omega
      rw [e1] at hrun hrd
      have hlk : ((fd.drop j).take k).length = k := by rw [List.length_take, List.length_drop]; omega
      have KC := Lib.hid fun (w2 : World) (hr : Rd w2 A2 k (u8s ((fd.drop j).take k))) => clone_any A2 k (c0 - j) ((fd.drop j).take k) w2 hr (by omega)
      unfold NewB at KC
      rw [hlk] at KC
      have Hrun := Lib.hid hrun
      have Hrd := Lib.hid hrd
      obtain ⟨n0, hn0⟩ : ∃ n0, n0 = fd.length := ⟨_, rfl⟩
      rw [← hn0] at FA hlim hbad hjk Hrun Hrd
      have Hn := Lib.hid hn0
      have hjn : (j : Int) + (k : Int) ≤ (n0 : Int) := by omega
      have d1 : decide (n0 < j) = false := by simp; omega
      have d2 : decide ((n0 : Int) - (j : Int) < (k : Int)) = false := by simp; omega
      have hrun : ∀ W : World, (Instr.slice 28 (.slice A n0 c0) (some (.int .i64 (j : Nat))) (some (.int .i64 ((j : Int) + (k : Int)))) none).run Try.prog W = .ok (.slice A2 k (c0 - j)) W := Hrun.out
      clear hc h hn0 hg hk hrd hbad hcap hjk e1 Hrun
      unfold GaveR
      rw [hlk]
      go_enter Try.func23, Try.ntmps23
      go_wp2_with (first
        | (go_at_call 44; (with_reducible refine (KO.out).mono ?_); rintro e w1 ⟨rfl, hx1⟩; have hF := FA.out _ hx1; have hB := K4.out _ hx1; have q0 : w1.cell? ⟨p, 0, none⟩ = some (.slice A n0 c0) := hF.1.cell 0; have q4 : w1.cell? ⟨g, 4, none⟩ = some (.int .i64 d.read) := hB.cell 4; have qf := hB.frozen 4)
        | (go_at_call 47; go_loud ((with_reducible refine (KC.out _ (Hrd.out _ _ (OwnC.set_ hB hF.2 (by decide) 4 _).rd)).mono ?_); rintro e w2 ⟨A3, c3, rfl, hx3, hown3⟩)))
      go_ret2
      have hX2 := (((HX.out.ext_ hx1).cells (d' := { d with read := wrap64 (d.read + (k : Nat)) }) (Blk_eq (BlkS hB) (by simp [fscells])) (grown_set (grown_rfl w1 g)) rfl).ext_ hx3)
      refine ⟨A3, c3, rfl, hX2, ((hx1.turn _).tr (Turn.cell foot_g)).tr (hx3.turn _), own_base hown3 ?_⟩
      have := hx1.size
      simpa using this
  · have KO := Lib.hid (open_bad W w g b d D hs nm _ h rfl)
    have hc : readD d nm i n = (d, [], openE d nm) := by unfold readD; rw [if_pos h0]
    rw [hc]
    have e2 : (((openE d nm : Nat) : Int) != 0) = true := by simp; omega
    clear hc h
    unfold GaveR
    generalize openE d nm = E at *
    go_enter Try.func23, Try.ntmps23
    go_wp2_with (go_at_call 44; (with_reducible refine (KO.out).mono ?_); rintro e w1 ⟨v, rfl, hx1⟩)
    go_ret2
    exact ⟨none, 0, rfl, HX.out.ext_ (by repeat (first | with_reducible exact Below.refl _ _ | with_reducible assumption | with_reducible refine ExtD ?_ | with_reducible refine ExtDN ?_ | with_reducible refine ExtA ?_ | (with_reducible refine ExtR ?_ ?_; (first | omega | (dsimp only; omega) | (simp; done) | (simp; omega))) | (with_reducible refine ExtS ?_ ?_; (first | omega | (dsimp only; omega) | (simp; done) | (simp; omega))) | with_reducible refine Ext.tr ?_ (by with_reducible assumption))), Ext.turn (by repeat (first | with_reducible exact Below.refl _ _ | with_reducible assumption | with_reducible refine ExtD ?_ | with_reducible refine ExtDN ?_ | with_reducible refine ExtA ?_ | (with_reducible refine ExtR ?_ ?_; (first | omega | (dsimp only; omega) | (simp; done) | (simp; omega))) | (with_reducible refine ExtS ?_ ?_; (first | omega | (dsimp only; omega) | (simp; done) | (simp; omega))) | with_reducible refine Ext.tr ?_ (by with_reducible assumption))) _, World.ownsRow_nil _ _ _ _⟩
theorem readD_files (d : Dk) (nm : ByteArray) (i n : Int) : (readD d nm i n).1.files = d.files := by
  unfold readD
  split
  · rfl
  · dsimp only
    split <;> rfl
theorem readD_img (d : Dk) (nm : ByteArray) (i n : Int) : imgL (readD d nm i n).1 = imgL d := by unfold imgL; rw [readD_files]
section
variable {W : World} {g b : Nat} {d d' : Dk} {D : DataW Value} {hs : List HF} {l0 lo : Nat} {w6 : World} {An : Option Addr} {nn cn : Nat} {w w' : World}
theorem Rst.read (h : Rst W g b d D hs lo w6 An nn cn w) (hb : ∀ r ∈ foot g b hs, r < l0) (h1 : l0 ≤ lo) (h2 : l0 ≤ w6.heap.size) (hX : FsX W w' g d' b D hs) (ht : Turn (foot g b hs) w w') : Rst W g b d' D hs lo w6 An nn cn w' where
  fs := hX
  kp := h.kp.turn ht fun r hr => by have := hb r hr; omega
  ns := by
    obtain ⟨l, hl, hn⟩ := h.ns
    exact ⟨l, hl, ht.own hn fun r hr hc => by have := hb r hc; have := (hn.lt r hr).1; omega⟩
theorem Rst.drew (h : Rst W g b d D hs lo w6 An nn cn w) (hx : Ext w w') : Rst W g b d D hs lo w6 An nn cn w' where
  fs := h.fs.ext_ hx
  kp := h.kp.turn (hx.turn []) fun r hr => by cases hr
  ns := by
    obtain ⟨l, hl, hn⟩ := h.ns
    exact ⟨l, hl, own_ext hx hn⟩
theorem Rst.byte (h : Rst W g b d D hs lo w6 An nn cn w) (hb : ∀ r ∈ foot g b hs, r < l0) (hW : W.heap.size ≤ l0) (h2 : l0 ≤ w6.heap.size) {base q n c : Nat} {xs : List Value} (ho : w.ownsRow base 5 1 (.slice (some ⟨q, 0, none⟩) n c) n xs) (hq : w6.heap.size ≤ base) (j : Nat) (v : Value) :
    Rst W g b d D hs lo w6 An nn cn (w.setCell ⟨q, j, none⟩ v) :=
  h.turn hb hW (Turn.cell (F := [q]) (by simp)) fun r hr => by
    simp at hr
    subst hr
    obtain ⟨l, _, hn⟩ := h.ns
    have h3 := (ho.lt r rfl).1
    refine ⟨by omega, .inr (by omega), fun hc => ?_⟩
    rcases own_ne2 hn ho (by decide) with h1 | h1
    · rw [h1] at hc; cases hc
    · exact h1 hc
theorem Rst.nsset {q : Nat} (h : Rst W g b d D hs lo w6 (some ⟨q, 0, none⟩) nn cn w) (hb : ∀ r ∈ foot g b hs, r < l0) (hW : W.heap.size ≤ l0) (h2 : l0 ≤ w6.heap.size) (k : Nat) (y : ByteArray) : Rst W g b d D hs lo w6 (some ⟨q, 0, none⟩) nn cn (w.setCell ⟨q, k, none⟩ (.string y)) := by
  obtain ⟨l, hl, hn⟩ := h.ns
  have h3 := (hn.lt q rfl).1
  exact
  { fs := h.fs.keep (F := [q]) (Turn.cell (by simp)) (fun r hr hc => by simp at hr; subst hr; have := hb r hc; omega) (fun r hr => by simp at hr; subst hr; omega)
    kp := h.kp.turn (Turn.cell (F := [q]) (by simp)) fun r hr => by simp at hr; subst hr; exact .inr h3
    ns := ⟨l.set k y, by simpa using hl, by rw [List.map_set]; exact own_setN hn k⟩ }
theorem Rst.nsat (h : Rst W g b d D hs lo w6 An nn cn w) {k : Nat} (hk : k < nn) : ∃ q nm, An = some ⟨q, 0, none⟩ ∧ w.cell? ⟨q, k, none⟩ = some (.string nm) ∧ w.frozen? ⟨q, k, none⟩ = false ∧ w6.heap.size ≤ q := by
  obtain ⟨l, hl, hn⟩ := h.ns
  obtain ⟨q, hq, hlq, hf⟩ := own_some hn (by omega)
  obtain ⟨b1, o, e, hc⟩ := (Rd.of_own hn).2 (by omega)
  rw [hq] at e
  injection e with e
  injection e with e1 e2
  subst e1 e2
  have hx : (l.map Value.string)[k]? = some (.string l[k]) := by rw [List.getElem?_map, List.getElem?_eq_getElem (by omega)]; rfl
  exact ⟨q, _, hq, by simpa using hc k _ hx, hf k, hlq⟩
end
theorem Turn.at_ {F : List Nat} {a b : World} {p : Addr} {v : Value} (h : Turn F a b) (hc : a.cell? p = some v) (hn : p.block ∉ F) : b.cell? p = some v := by
  have hb := h.block p.block (World.block_lt_of_cell? a p hc) hn
  unfold World.cell? at hc ⊢
  rw [hb]
  exact hc
theorem u8_at {w : World} {base n c j : Nat} {A : Option Addr} {xs : List Value} (ho : w.ownsRow base 5 1 (.slice A n c) n xs) (hu : U8v xs) (hj : j < n) : ∃ q x, A = some ⟨q, 0, none⟩ ∧ w.cell? ⟨q, j, none⟩ = some (.int .u8 x) ∧ w.frozen? ⟨q, j, none⟩ = false := by
  obtain ⟨g, hB, hb, hf⟩ := own_some ho (by omega)
  have h1 := Rd.of_own ho
  have hl := h1.1
  obtain ⟨b, o, e, hc⟩ := h1.2 (by omega)
  rw [hB] at e
  injection e with e
  injection e with e1 e2
  subst e1 e2
  have hx : xs[j]? = some xs[j] := List.getElem?_eq_getElem (by omega)
  obtain ⟨x, hxe⟩ := hu _ (List.mem_of_getElem? hx)
  have := hc j _ hx
  rw [hxe] at this
  exact ⟨g, x, hB, by simpa using this, hf j⟩
theorem own_max {w : World} {base n c : Nat} {e : TypeId} {A : Option Addr} {xs : List Value} (h : w.ownsRow base e 1 (.slice A n c) n xs) : n ≤ maxLen := by
  rcases h.2 with ⟨hv, h0⟩ | ⟨g, cap, cur, hv, h1, h2, h3, h4, h5, h6⟩
  · omega
  · omega
end Go.Proofs.Ytomnllkliifeoaa
