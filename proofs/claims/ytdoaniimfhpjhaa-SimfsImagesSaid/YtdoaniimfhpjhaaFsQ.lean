/-
  A disk in memory; List, Image.
-/
import Derived.Test.YtdoaniimfhpjhaaFvA
namespace Go.Proofs.Ytdoaniimfhpjhaa
open Go.RowKit
set_option linter.unusedVariables false
set_option linter.unusedSimpArgs false
open Go.Maps
open Go.Sort
theorem nm_at {w : World} {A : Option Addr} {n k : Nat} {l : List Fil} {f : Fil} (hr : Rd w A n (nmV l)) (hk : l[k]? = some f) :
    ∃ b o, A = some ⟨b, o, none⟩ ∧ w.cell? ⟨b, o + k, none⟩ = some (.string f.name) := by
  have hlt : k < l.length := (List.getElem?_eq_some_iff.1 hk).1
  obtain ⟨b, o, e, hc⟩ := hr.2 (by have := hr.1; rw [nmV_len] at this; omega)
  exact ⟨b, o, e, hc k _ (by simp [nmV, hk])⟩
def ImgR (w : World) (l : List FV) (c3 c12 : Value) (wr : World) : Prop :=
  ∃ (k : Nat) (A : Option Addr) (c : Nat) (hs : List HV), c12 = .int .i64 k ∧ k ≤ l.length ∧ c3 = .slice A k c ∧ hs.map (·.1) = l.take k ∧ Ext w wr ∧ OwnFl wr w.heap.size A k c hs
def imgL (d : Dk) : List FV := (sortF d.files).map Fil.fv
theorem imgL_len (d : Dk) : (imgL d).length = d.files.length := by unfold imgL; rw [List.length_map, sortF_len]
theorem file_cap {W w : World} {g b : Nat} {d : Dk} {D : DataW Value} {l1 l2 : List HF} {nm : ByteArray} {fd : List UInt8} {fs p c0 : Nat} {A : Option Addr} (h : FsX W w g d b D (l1 ++ (⟨nm, fd, fs⟩, p, A, c0) :: l2)) : fd.length ≤ c0 ∧ c0 ≤ maxLen := by
  rcases (h.fil (⟨nm, fd, fs⟩, p, A, c0) (by simp)).2.2 with ⟨hv, h2⟩ | ⟨g2, cap, cur, hv, _, _, h2, h3, _⟩
  · injection hv with _ h3 h4; dsimp only at h2 h4; omega
  · injection hv with _ h5 h4; dsimp only at h2 h4; subst h4; exact ⟨h2, h3⟩
theorem name_len {W w : World} {g b : Nat} {d : Dk} {D : DataW Value} {hs : List HF} (h : FsX W w g d b D hs) {f : HF} (hf : f ∈ hs) : f.1.name.size ≤ maxLen := by
  obtain ⟨n, _, ho⟩ := h.own
  obtain ⟨es, rfl, hko⟩ := ho.keysOf
  have hh := h.map.2.2.2.1 f.1.name
  have ht : ((hs.map fun h => (h.1.name, h.2.1)).any fun p => decide (p.1 = f.1.name)) = true := List.any_eq_true.2 ⟨(f.1.name, f.2.1), List.mem_map.2 ⟨f, hf, rfl⟩, by simp⟩
  rw [ht, has_eq, List.any_eq_true] at hh
  obtain ⟨p, hp, hsame⟩ := hh
  obtain ⟨v, hv⟩ := hko p hp
  obtain ⟨x, _, hx, hl⟩ := Maps.keyOf_str Try.underlying9 hv
  rw [hx] at hsame
  have : x = f.1.name.data.toList := by simpa [Lit.sameKey, nmLit] using hsame
  rw [this] at hl
  simpa using hl
set_option maxRecDepth 100000 in
set_option maxHeartbeats 4000000 in
theorem image_any (W w : World) (g b : Nat) (d : Dk) (D : DataW Value) (hs : List HF) (h : FsX W w g d b D hs) (hk : DkOk d) :
    Calls Try.prog 16 #[ptrV g] w (GaveF w (imgL d)) := by
  unfold ptrV
  have HX := Lib.hid h
  have KN := Lib.hid (names_any W w g b d D hs h)
  have hcnt : d.files.length ≤ 700 := by rw [← h.hsd, List.length_map]; exact h.cnt
  unfold ptrV GaveN at KN
  obtain ⟨L, hL⟩ : ∃ L, L = d.files.length := ⟨_, rfl⟩
  rw [← hL] at KN hcnt
  have HL := Lib.hid hL
  clear h hL
  go_enter Try.func16, Try.ntmps16
  go_wp2_with (go_at_call 43; (with_reducible refine (KN.out).mono ?_); rintro e w1 ⟨An, cn, rfl, hx1, hown1⟩)
  have Hr := Lib.hid (Rd.of_own hown1)
  go_loopw [3, 12] (fun c3 c12 wr => ImgR w1 (imgL d) c3 c12 wr) (fun _ c12 _ => L - (intOf c12).toNat)
  case atStart => exact ⟨0, none, 0, [], rfl, by omega, rfl, rfl, Ext.rfl' _, OwnFl.nil_ _ _⟩
  case round =>
    obtain ⟨k, A1, c1, gs, rfl, hkL, rfl, hmap, hx, hown⟩ := hrel
    rw [imgL_len, ← HL.out] at hkL
    have Hmap := Lib.hid hmap
    have Hown := Lib.hid hown
    have Hgl := Lib.hid hown.len
    clear hmap hown hown1
    by_cases hlt : k < L
    · obtain ⟨l1, l2, fn, fd, fs, p, A, c0, rfl, hfk⟩ := sortF_get HX.out (k := k) (by have := HL.out; omega)
      obtain ⟨nb, no, rfl, e0⟩ := nm_at (Hr.out.ext hx) hfk
      have hX := HX.out.ext_ (hx1.tr hx)
      have k0 : wr.cell? ⟨g, 0, none⟩ = some (.map (some b)) := hX.blk.cell 0
      have hl := look_hit (nm := fn) (p := p) hX.own hX.map (List.mem_map.2 ⟨((⟨fn, fd, fs⟩, p, A, c0) : HF), by simp, rfl⟩) (name_len hX (f := ((⟨fn, fd, fs⟩, p, A, c0) : HF)) (by simp))
      unfold ptrV at hl
      obtain ⟨hF, hO⟩ := hX.fil (⟨fn, fd, fs⟩, p, A, c0) (by simp)
      unfold filcells at hF
      dsimp only at hF hO e0
      have hlim := (file_lim HX.out hk)
      have KC := Lib.hid fun (w2 : World) (hx2 : Ext wr w2) => clone_any A fd.length c0 fd w2 (hO.rd.ext hx2) (by omega)
      have Hfk := Lib.hid hfk
      obtain ⟨n0, hn0⟩ : ∃ n0, n0 = fd.length := ⟨_, rfl⟩
      unfold NewB at KC
      rw [← hn0] at hF KC hlim
      have Hn0 := Lib.hid hn0
      have Hrd := Lib.hid fun (W : World) (A2 : Option Addr) (c2 : Nat) => (show RdN (W.alloc (.cells #[.string fn, .slice A2 n0 c2, .int .i64 (fs : Nat)] 49)) 3 (some ⟨W.heap.size, 0, none⟩) 1 (flCells [(⟨fn, fd, (fs : Nat)⟩, A2, c2)]) from by rw [hn0]; exact rdV_new W _ ⟨fn, fd, (fs : Nat)⟩ A2 c2 rfl)
      have q0 : wr.cell? ⟨p, 0, none⟩ = some (.slice A n0 c0) := hF.cell 0
      have q1 : wr.cell? ⟨p, 1, none⟩ = some (.int .i64 (fs : Nat)) := hF.cell 1
      have hF1 := ((HX.out.ext_ hx1).fil (⟨fn, fd, fs⟩, p, A, c0) (by simp)).1
      unfold filcells at hF1
      dsimp only at hF1
      rw [← hn0] at hF1
      have HS := Lib.hid fun (w' : World) (hx' : Ext w1 w') => (show w'.cell? ⟨p, 0, none⟩ = some (.slice A n0 c0) ∧ w'.cell? ⟨p, 1, none⟩ = some (.int .i64 (fs : Nat)) from ⟨hx'.cell (hF1.cell 0), hx'.cell (hF1.cell 1)⟩)
      clear hfk hn0 hO hF hX hk hF1
      go_wp2_with fail
      go_region_held3 (fun w' => w'.cell? ⟨p, 0, none⟩ = some (.slice A n0 c0) ∧ w'.cell? ⟨p, 1, none⟩ = some (.int .i64 (fs : Nat))) (exact HS.out _ (by repeat (first | with_reducible exact Below.refl _ _ | with_reducible assumption | with_reducible refine ExtD ?_ | with_reducible refine ExtDN ?_ | with_reducible refine ExtA ?_ | (with_reducible refine ExtR ?_ ?_; (first | omega | (dsimp only; omega) | (simp; done) | (simp; omega))) | (with_reducible refine ExtS ?_ ?_; (first | omega | (dsimp only; omega) | (simp; done) | (simp; omega))) | with_reducible refine Ext.tr ?_ (by with_reducible assumption))))
        (first
          | (go_at_call 42; (with_reducible refine (KC.out _ (by repeat (first | with_reducible exact Below.refl _ _ | with_reducible assumption | with_reducible refine ExtD ?_ | with_reducible refine ExtDN ?_ | with_reducible refine ExtA ?_ | (with_reducible refine ExtR ?_ ?_; (first | omega | (dsimp only; omega) | (simp; done) | (simp; omega))) | (with_reducible refine ExtS ?_ ?_; (first | omega | (dsimp only; omega) | (simp; done) | (simp; omega))) | with_reducible refine Ext.tr ?_ (by with_reducible assumption)))).mono ?_); rintro e w2 ⟨A2, c2, rfl, hx2, hown2⟩)
          | (refine step_appendF rfl (some 35) rfl (.tmp 22) (.tmp 34) rfl w1 (by rfl) (own_ext (w := wr) (by repeat (first | with_reducible exact Below.refl _ _ | with_reducible assumption | with_reducible refine ExtD ?_ | with_reducible refine ExtDN ?_ | with_reducible refine ExtA ?_ | (with_reducible refine ExtR ?_ ?_; (first | omega | (dsimp only; omega) | (simp; done) | (simp; omega))) | (with_reducible refine ExtS ?_ ?_; (first | omega | (dsimp only; omega) | (simp; done) | (simp; omega))) | with_reducible refine Ext.tr ?_ (by with_reducible assumption))) Hown.out.1) (by repeat (first | with_reducible exact Below.refl _ _ | with_reducible assumption | with_reducible refine ExtD ?_ | with_reducible refine ExtDN ?_ | with_reducible refine ExtA ?_ | (with_reducible refine ExtR ?_ ?_; (first | omega | (dsimp only; omega) | (simp; done) | (simp; omega))) | (with_reducible refine ExtS ?_ ?_; (first | omega | (dsimp only; omega) | (simp; done) | (simp; omega))) | with_reducible refine Ext.tr ?_ (by with_reducible assumption))) (by rfl) (Hrd.out _ _ _) (by have := Hgl.out; simp; omega) ?_; intro A3 n3 c3 w3 hx3 hn3 hown3 hk3 hg3))
      go_wp2_with fail
      go_roundw
      case rel =>
        have hn : n3 = k + 1 := by rw [hn3.out, Hgl.out]; rfl
        subst hn
        have hfl : fd.length = n0 := Hn0.out.symm
        refine ⟨k + 1, A3, c3, gs ++ [(⟨fn, fd, (fs : Nat)⟩, A2, c2)], by go_num, by rw [imgL_len, ← HL.out]; omega, rfl, ?_, hx3, hown3, ?_⟩
        · rw [List.map_append, Hmap.out, List.take_add_one]
          unfold imgL
          rw [List.getElem?_map, Hfk.out]
          rfl
        · intro h hh
          rcases List.mem_append.1 hh with hh | hh
          · exact hk3 _ _ _ _ (own_ext (w := wr) (by repeat (first | with_reducible exact Below.refl _ _ | with_reducible assumption | with_reducible refine ExtD ?_ | with_reducible refine ExtDN ?_ | with_reducible refine ExtA ?_ | (with_reducible refine ExtR ?_ ?_; (first | omega | (dsimp only; omega) | (simp; done) | (simp; omega))) | (with_reducible refine ExtS ?_ ?_; (first | omega | (dsimp only; omega) | (simp; done) | (simp; omega))) | with_reducible refine Ext.tr ?_ (by with_reducible assumption))) (Hown.out.2 h hh))
          · simp only [List.mem_singleton] at hh
            subst hh
            dsimp only
            rw [hfl]
            exact hk3 _ _ _ _ (own_ext (w := w2) (by repeat (first | with_reducible exact Below.refl _ _ | with_reducible assumption | with_reducible refine ExtD ?_ | with_reducible refine ExtDN ?_ | with_reducible refine ExtA ?_ | (with_reducible refine ExtR ?_ ?_; (first | omega | (dsimp only; omega) | (simp; done) | (simp; omega))) | (with_reducible refine ExtS ?_ ?_; (first | omega | (dsimp only; omega) | (simp; done) | (simp; omega))) | with_reducible refine Ext.tr ?_ (by with_reducible assumption))) (own_base hown2 (by have := hx.size; simp; omega)))
      case measure => simp [intOf]; omega
    · obtain rfl : k = L := by omega
      have htk : (imgL d).take k = imgL d := List.take_of_length_le (by rw [imgL_len, ← HL.out]; omega)
      have hlk : (imgL d).length = k := by rw [imgL_len, ← HL.out]
      have Htk := Lib.hid htk
      have Hlk := Lib.hid hlk
      clear htk hlk
      go_wp2_with fail
      go_ret
      unfold GaveF
      rw [Hlk.out]
      exact ⟨A1, c1, gs, rfl, by rw [Hmap.out, Htk.out], hx1.tr hx, own_base Hown.out.1 hx1.size, fun h hh => own_base (Hown.out.2 h hh) hx1.size⟩
def GaveL (w : World) (d : Dk) (e : Ending) (w' : World) : Prop :=
  if d.down = true then e = .returned (.slice none 0 0) ∧ Ext w w' else GaveN w w d.files e w'
set_option maxRecDepth 100000 in
set_option maxHeartbeats 4000000 in
theorem list_any (W w : World) (g b : Nat) (d : Dk) (D : DataW Value) (hs : List HF) (h : FsX W w g d b D hs) :
    Calls Try.prog 25 #[ptrV g] w (GaveL w d) := by
  unfold ptrV
  have k6 : w.cell? ⟨g, 6, none⟩ = some (.bool d.down) := h.blk.cell 6
  have KN := Lib.hid (names_any W w g b d D hs h)
  unfold ptrV at KN
  clear h
  cases hd : d.down
  · rw [hd] at k6
    have hG : GaveL w d = GaveN w w d.files := by funext e w'; unfold GaveL; rw [hd]; simp
    rw [hG]
    unfold GaveN at KN
    obtain ⟨L, hL⟩ : ∃ L, L = d.files.length := ⟨_, rfl⟩
    rw [← hL] at KN
    have HL := Lib.hid hL
    clear hG hd hL
    go_enter Try.func25, Try.ntmps25
    go_wp2_with (go_at_call 43; (with_reducible refine (KN.out).mono ?_); rintro e w1 ⟨An, cn, rfl, hx1, hown1⟩)
    go_ret
    unfold GaveN
    rw [← HL.out]
    exact ⟨An, cn, rfl, hx1, hown1⟩
  · rw [hd] at k6
    have hG : GaveL w d = fun e w' => e = .returned (.slice none 0 0) ∧ Ext w w' := by funext e w'; unfold GaveL; rw [hd]; simp
    rw [hG]
    clear hG hd
    go_enter Try.func25, Try.ntmps25
    go_wp2_with fail
    go_ret
    exact ⟨rfl, (by repeat (first | with_reducible exact Below.refl _ _ | with_reducible assumption | with_reducible refine ExtD ?_ | with_reducible refine ExtDN ?_ | with_reducible refine ExtA ?_ | (with_reducible refine ExtR ?_ ?_; (first | omega | (dsimp only; omega) | (simp; done) | (simp; omega))) | (with_reducible refine ExtS ?_ ?_; (first | omega | (dsimp only; omega) | (simp; done) | (simp; omega))) | with_reducible refine Ext.tr ?_ (by with_reducible assumption)))⟩
end Go.Proofs.Ytdoaniimfhpjhaa
