/-
  The image's files lie in blocks of their own, each in another.
-/
import Derived.Test.YtomnllkliifeoaaLsD
namespace Go.Proofs.Ytomnllkliifeoaa
open Go.RowKit
set_option linter.unusedVariables false
set_option linter.unusedSimpArgs false
open Go.Maps
def hvb (h : HV) : Value := .slice h.2.1 h.1.data.length h.2.2
def DisV (hs : List HV) : Prop := hs.Pairwise fun x y => ∀ r, (hvb x).ownBlock = some r → (hvb y).ownBlock = some r → False
def ImgD (w : World) (l : List FV) (c3 c12 : Value) (wr : World) : Prop :=
  ∃ (k : Nat) (A : Option Addr) (c : Nat) (hs : List HV), c12 = .int .i64 k ∧ k ≤ l.length ∧ c3 = .slice A k c ∧ hs.map (·.1) = l.take k ∧ Ext w wr ∧ OwnFl wr w.heap.size A k c hs ∧ DisV hs
/-- What Image answers. -/
def GaveD (w : World) (l : List FV) (e : Ending) (w' : World) : Prop :=
  ∃ A c hs, e = .returned (.slice A l.length c) ∧ hs.map (·.1) = l ∧ Ext w w' ∧ OwnFl w' w.heap.size A l.length c hs ∧ DisV hs
set_option maxRecDepth 100000 in
set_option maxHeartbeats 4000000 in
theorem image_dis (W w : World) (g b : Nat) (d : Dk) (D : DataW Value) (hs : List HF) (h : FsX W w g d b D hs) (hk : DkOk d) :
    Calls Try.prog 29 #[ptrV g] w (GaveD w (imgL d)) := by
  unfold ptrV
  have HX := Lib.hid h
  have KN := Lib.hid (names_any W w g b d D hs h)
  have hcnt : d.files.length ≤ 700 := by rw [← h.hsd, List.length_map]; exact h.cnt
  unfold ptrV GaveN at KN
  obtain ⟨L, hL⟩ : ∃ L, L = d.files.length := ⟨_, rfl⟩
  rw [← hL] at KN hcnt
  have HL := Lib.hid hL
  clear h hL
  go_enter Try.func29, Try.ntmps29
  go_wp2_with (go_at_call 46; (with_reducible refine (KN.out).mono ?_); rintro e w1 ⟨An, cn, rfl, hx1, hown1⟩)
  have Hr := Lib.hid (Rd.of_own hown1)
  go_loopw [3, 12] (fun c3 c12 wr => ImgD w1 (imgL d) c3 c12 wr) (fun _ c12 _ => L - (intOf c12).toNat)
  case atStart => exact ⟨0, none, 0, [], rfl, by omega, rfl, rfl, Ext.rfl' _, OwnFl.nil_ _ _, List.Pairwise.nil⟩
  case round =>
    obtain ⟨k, A1, c1, gs, rfl, hkL, rfl, hmap, hx, hown, hdis⟩ := hrel
    rw [imgL_len, ← HL.out] at hkL
    have Hmap := Lib.hid hmap
    have Hown := Lib.hid hown
    have Hgl := Lib.hid hown.len
    have Hdis := Lib.hid hdis
    clear hmap hown hown1 hdis
    by_cases hlt : k < L
    · obtain ⟨l1, l2, fn, fd, fs, p, A, c0, rfl, hfk⟩ := sortF_get HX.out (k := k) (by have := HL.out; omega)
      obtain ⟨nb, no, rfl, e0⟩ := nm_at (Hr.out.ext hx) hfk
      have hX := HX.out.ext_ (hx1.tr hx)
      have k0 : wr.cell? ⟨g, 0, none⟩ = some (.map (some b)) := hX.blk.cell 0
      have hl := look_hit (nm := fn) (p := p) hX.own hX.map (List.mem_map.2 ⟨((⟨fn, fd, fs⟩, p, A, c0) : HF), by simp, rfl⟩) (name_len hX (f := ((⟨fn, fd, fs⟩, p, A, c0) : HF)) (by simp))
      unfold ptrV at hl
      obtain ⟨hF, hO⟩ := hX.fil (⟨fn, fd, fs⟩, p, A, c0) (by simp)
      unfold filcells at hF
      dsimp only at hF hO e0
      have hlim := (file_lim HX.out hk)
      have KC := Lib.hid fun (w2 : World) (hx2 : Ext wr w2) => clone_any A fd.length c0 fd w2 (hO.rd.ext hx2) (by omega)
      have Hfk := Lib.hid hfk
      obtain ⟨n0, hn0⟩ : ∃ n0, n0 = fd.length := ⟨_, rfl⟩
      unfold NewB at KC
      rw [← hn0] at hF KC hlim
      have Hn0 := Lib.hid hn0
      have Hrd := Lib.hid fun (W : World) (A2 : Option Addr) (c2 : Nat) => (show RdN (W.alloc (.cells #[.string fn, .slice A2 n0 c2, .int .i64 (fs : Nat)] 55)) 3 (some ⟨W.heap.size, 0, none⟩) 1 (flCells [(⟨fn, fd, (fs : Nat)⟩, A2, c2)]) from by rw [hn0]; exact rdV_new W _ ⟨fn, fd, (fs : Nat)⟩ A2 c2 rfl)
      have q0 : wr.cell? ⟨p, 0, none⟩ = some (.slice A n0 c0) := hF.cell 0
      have q1 : wr.cell? ⟨p, 1, none⟩ = some (.int .i64 (fs : Nat)) := hF.cell 1
      have hF1 := ((HX.out.ext_ hx1).fil (⟨fn, fd, fs⟩, p, A, c0) (by simp)).1
      unfold filcells at hF1
      dsimp only at hF1
      rw [← hn0] at hF1
      have HS := Lib.hid fun (w' : World) (hx' : Ext w1 w') => (show w'.cell? ⟨p, 0, none⟩ = some (.slice A n0 c0) ∧ w'.cell? ⟨p, 1, none⟩ = some (.int .i64 (fs : Nat)) from ⟨hx'.cell (hF1.cell 0), hx'.cell (hF1.cell 1)⟩)
      clear hfk hn0 hO hF hX hk hF1
      go_wp2_with fail
      go_region_held3 (fun w' => w'.cell? ⟨p, 0, none⟩ = some (.slice A n0 c0) ∧ w'.cell? ⟨p, 1, none⟩ = some (.int .i64 (fs : Nat))) (exact HS.out _ (by repeat (first | with_reducible exact Below.refl _ _ | with_reducible assumption | with_reducible refine ExtD ?_ | with_reducible refine ExtDN ?_ | with_reducible refine ExtA ?_ | (with_reducible refine ExtR ?_ ?_; (first | omega | (dsimp only; omega) | (simp; done) | (simp; omega))) | (with_reducible refine ExtS ?_ ?_; (first | omega | (dsimp only; omega) | (simp; done) | (simp; omega))) | with_reducible refine Ext.tr ?_ (by with_reducible assumption))))
        (first
          | (go_at_call 47; (with_reducible refine (KC.out _ (by repeat (first | with_reducible exact Below.refl _ _ | with_reducible assumption | with_reducible refine ExtD ?_ | with_reducible refine ExtDN ?_ | with_reducible refine ExtA ?_ | (with_reducible refine ExtR ?_ ?_; (first | omega | (dsimp only; omega) | (simp; done) | (simp; omega))) | (with_reducible refine ExtS ?_ ?_; (first | omega | (dsimp only; omega) | (simp; done) | (simp; omega))) | with_reducible refine Ext.tr ?_ (by with_reducible assumption)))).mono ?_); rintro e w2 ⟨A2, c2, rfl, hx2, hown2⟩)
          | (refine step_appendF rfl (some 35) rfl (.tmp 22) (.tmp 34) rfl w1 (by rfl) (own_ext (w := wr) (by repeat (first | with_reducible exact Below.refl _ _ | with_reducible assumption | with_reducible refine ExtD ?_ | with_reducible refine ExtDN ?_ | with_reducible refine ExtA ?_ | (with_reducible refine ExtR ?_ ?_; (first | omega | (dsimp only; omega) | (simp; done) | (simp; omega))) | (with_reducible refine ExtS ?_ ?_; (first | omega | (dsimp only; omega) | (simp; done) | (simp; omega))) | with_reducible refine Ext.tr ?_ (by with_reducible assumption))) Hown.out.1) (by repeat (first | with_reducible exact Below.refl _ _ | with_reducible assumption | with_reducible refine ExtD ?_ | with_reducible refine ExtDN ?_ | with_reducible refine ExtA ?_ | (with_reducible refine ExtR ?_ ?_; (first | omega | (dsimp only; omega) | (simp; done) | (simp; omega))) | (with_reducible refine ExtS ?_ ?_; (first | omega | (dsimp only; omega) | (simp; done) | (simp; omega))) | with_reducible refine Ext.tr ?_ (by with_reducible assumption))) (by rfl) (Hrd.out _ _ _) (by have := Hgl.out; simp; omega) ?_; intro A3 n3 c3 w3 hx3 hn3 hown3 hk3 hg3))
      go_wp2_with fail
      go_roundw
      case rel =>
        have hn : n3 = k + 1 := by rw [hn3.out, Hgl.out]; rfl
        subst hn
        have hfl : fd.length = n0 := Hn0.out.symm
        refine ⟨k + 1, A3, c3, gs ++ [(⟨fn, fd, (fs : Nat)⟩, A2, c2)], by go_num, by rw [imgL_len, ← HL.out]; omega, rfl, ?_, hx3, ⟨hown3, ?_⟩, ?_⟩
        · rw [List.map_append, Hmap.out, List.take_add_one]
          unfold imgL
          rw [List.getElem?_map, Hfk.out]
          rfl
        · intro h hh
          rcases List.mem_append.1 hh with hh | hh
          · exact hk3 _ _ _ _ (own_ext (w := wr) (by repeat (first | with_reducible exact Below.refl _ _ | with_reducible assumption | with_reducible refine ExtD ?_ | with_reducible refine ExtDN ?_ | with_reducible refine ExtA ?_ | (with_reducible refine ExtR ?_ ?_; (first | omega | (dsimp only; omega) | (simp; done) | (simp; omega))) | (with_reducible refine ExtS ?_ ?_; (first | omega | (dsimp only; omega) | (simp; done) | (simp; omega))) | with_reducible refine Ext.tr ?_ (by with_reducible assumption))) (Hown.out.2 h hh))
          · simp only [List.mem_singleton] at hh
            subst hh
            dsimp only
            rw [hfl]
            exact hk3 _ _ _ _ (own_ext (w := w2) (by repeat (first | with_reducible exact Below.refl _ _ | with_reducible assumption | with_reducible refine ExtD ?_ | with_reducible refine ExtDN ?_ | with_reducible refine ExtA ?_ | (with_reducible refine ExtR ?_ ?_; (first | omega | (dsimp only; omega) | (simp; done) | (simp; omega))) | (with_reducible refine ExtS ?_ ?_; (first | omega | (dsimp only; omega) | (simp; done) | (simp; omega))) | with_reducible refine Ext.tr ?_ (by with_reducible assumption))) (own_base hown2 (by have := hx.size; simp; omega)))
        · refine List.pairwise_append.2 ⟨Hdis.out, List.pairwise_singleton _ _, fun x hx1 y hy r hr hc => ?_⟩
          simp only [List.mem_singleton] at hy
          subst hy
          have h1 := ((Hown.out.2 x hx1).lt r hr).2
          unfold hvb at hc
          dsimp only at hc
          rw [hfl] at hc
          have h2 := (hown2.lt r hc).1
          simp at h2
          omega
      case measure => simp [intOf]; omega
    · obtain rfl : k = L := by omega
      have htk : (imgL d).take k = imgL d := List.take_of_length_le (by rw [imgL_len, ← HL.out]; omega)
      have hlk : (imgL d).length = k := by rw [imgL_len, ← HL.out]
      have Htk := Lib.hid htk
      have Hlk := Lib.hid hlk
      clear htk hlk
      go_wp2_with fail
      go_ret
      unfold GaveD
      rw [Hlk.out]
      exact ⟨A1, c1, gs, rfl, by rw [Hmap.out, Htk.out], hx1.tr hx, ⟨own_base Hown.out.1 hx1.size, fun h hh => own_base (Hown.out.2 h hh) hx1.size⟩, Hdis.out⟩
theorem list_own {W w : World} {g b : Nat} {d : Dk} {D : DataW Value} {hs : List HF} (h : FsX W w g d b D hs) : Calls Try.prog 25 #[.pointer (some ⟨g, 0, none⟩)] w fun e w' => ∃ (A : Option Addr) (c : Nat) (l : List ByteArray), e = .returned (.slice A l.length c) ∧ Ext w w' ∧ w'.ownsRow w.heap.size 9 1 (.slice A l.length c) l.length (l.map Value.string) ∧ l.length ≤ d.files.length := by
  refine (listK h).mono ?_
  intro e w' h1
  unfold GaveL at h1
  split at h1
  · obtain ⟨rfl, hx⟩ := h1
    exact ⟨none, 0, [], rfl, hx, World.ownsRow_nil _ _ _ _, by simp⟩
  · obtain ⟨A, c, rfl, hx, ho⟩ := h1
    refine ⟨A, c, (sortF d.files).map (·.name), ?_, hx, ?_, by simp [sortF_len]⟩
    · simp [sortF_len]
    · have e1 : nmV (sortF d.files) = ((sortF d.files).map (·.name)).map Value.string := by simp [nmV]
      have e2 : ((sortF d.files).map (fun f : Fil => f.name)).length = d.files.length := by simp [sortF_len]
      rw [e2, ← e1]
      exact ho
end Go.Proofs.Ytomnllkliifeoaa
