/-
  Arguments opened: states and events.
-/
/-
  A slice of events that comes in: its length is no more than its capacity.
-/
/-
  A slice of states that comes in; what the bulk's bound gives.
-/
import Derived.Test.YtjajbbgebblalaaGreatDoorOrdW
import Derived.Test.YtjajbbgebblalaaGreatDoorOpenS
import Derived.ProofKit
import Derived.OpenShut
import Derived.SizedLaws
import Derived.Deep.Slices
import Derived.Deep.Fields
import Derived.ChangeSame
import Derived.Test.YtjajbbgebblalaaGreatDoorSsW
import Derived.Test.YtjajbbgebblalaaGreatDoorRows
namespace Go.Proofs.YtjajbbgebblalaaGreatDoor
open Go.RowKit
set_option linter.unusedVariables false
set_option linter.unusedSimpArgs false
open Go.ChangeShapes Go.WideShapes Go.Deep
section
variable {H : Type} {enc : TypeId × Value → H} {w : World} {base : Nat} {spare : Nat → Bool} {held : Bool}
theorem okWide_st {P : Program} {W : World} {r : Reach} {b : Nat} {t : TypeId} {fs : Array Field} {v : Value} (hu : P.underlying t = some (.struct fs)) (h : Value.okWide P W r b t v) : ∃ cs, v = .agg cs := by
  unfold Value.okWide at h
  rw [hu] at h
  obtain ⟨cs, h, _⟩ := h
  exact ⟨cs, h⟩
def I64' (x : Int) : Prop := -9223372036854775808 ≤ x ∧ x ≤ 9223372036854775807
theorem i64_of {x : Int} (h : (Lit.int .i64 x).wf = true) : I64' x := by
  simp [Lit.wf, IntKind.min, IntKind.max, IntKind.signed, IntKind.bits] at h; exact h
def LnWf (l : Ln) : Prop := I64' l.item ∧ I64' l.price ∧ I64' l.qty ∧ I64' l.shipped
def StWf (s : St) : Prop := (I64' s.order ∧ I64' s.status ∧ I64' s.prior ∧ I64' s.cur ∧ I64' s.tax) ∧ (I64' s.paid ∧ I64' s.refunded ∧ I64' s.events ∧ I64' s.refused ∧ I64' s.stamp) ∧ s.who.size ≤ 140737488351232 ∧ s.lines.length ≤ 4398046510976 ∧ ∀ l ∈ s.lines, LnWf l
def EvWf (e : Ev) : Prop := (I64' e.kind ∧ I64' e.order ∧ I64' e.item ∧ I64' e.qty ∧ I64' e.price ∧ I64' e.cur ∧ I64' e.tax ∧ I64' e.stamp) ∧ e.who.size ≤ 140737488351232 ∧ e.note.size ≤ 140737488351232
set_option maxRecDepth 100000 in
set_option maxHeartbeats 1000000 in
theorem open_ln {fuel : Nat} {cs : List Value} {y : DataW H × List MemPlace} (h : DataW.trod enc Tryz.prog w base spare held fuel 79 cs = some y) (hs : Sz Tryz.prog 79 y.1) :
    ∃ l, cs = (lncells l).toList ∧ LnWf l := by
  obtain ⟨ys, n, _, rfl, hlen, hyl, hf⟩ := DataW.trod_struct Tryz.underlying79 h
  have hC : Tryz.prog.cellsOf 79 = 4 := by kernel_rfl
  have k0 : Tryz.prog.cellsOf 3 = 1 := by kernel_rfl
  rw [hC] at hlen
  match cs, hlen with
  | [c0, c1, c2, c3], _ =>
    match ys, hyl with
    | [y0, y1, y2, y3], _ =>
      have h0 : DataW.trod enc Tryz.prog w base spare held n 3 (List.take (Tryz.prog.cellsOf 3) [c0, c1, c2, c3]) = some y0 := hf 0 _ rfl
      have h1 : DataW.trod enc Tryz.prog w base spare held n 3 (List.take (Tryz.prog.cellsOf 3) [c1, c2, c3]) = some y1 := hf 1 _ rfl
      have h2 : DataW.trod enc Tryz.prog w base spare held n 3 (List.take (Tryz.prog.cellsOf 3) [c2, c3]) = some y2 := hf 2 _ rfl
      have h3 : DataW.trod enc Tryz.prog w base spare held n 3 (List.take (Tryz.prog.cellsOf 3) [c3]) = some y3 := hf 3 _ rfl
      rw [k0] at h0
      rw [k0] at h1
      rw [k0] at h2
      rw [k0] at h3
      obtain ⟨m0, e0, _, w0⟩ := DataW.trod_int Tryz.underlying3 h0
      obtain ⟨m1, e1, _, w1⟩ := DataW.trod_int Tryz.underlying3 h1
      obtain ⟨m2, e2, _, w2⟩ := DataW.trod_int Tryz.underlying3 h2
      obtain ⟨m3, e3, _, w3⟩ := DataW.trod_int Tryz.underlying3 h3
      simp at e0 e1 e2 e3
      subst e0 e1 e2 e3
      exact ⟨⟨m0, m1, m2, m3⟩, rfl, i64_of w0, i64_of w1, i64_of w2, i64_of w3⟩
set_option maxRecDepth 100000 in
theorem open_lines {fuel : Nat} {v : Value} {y : DataW H × List MemPlace} (h : DataW.trod enc Tryz.prog w base spare held fuel 75 [v] = some y) (hs : Sz Tryz.prog 75 y.1) :
    ∃ A c ls, v = .slice A (ls : List Ln).length c ∧ LsRd w A ls ∧ ls.length * 32 ≤ 140737488351232 ∧ ∀ l ∈ ls, LnWf l := by
  rcases open_slice Tryz.underlying75 h with ⟨hcs, _⟩ | ⟨x, n, c, m, k, D, Pl, hcs, _, hl, hm, hmm, rfl, hi⟩
  · simp at hcs
    exact ⟨none, 0, [], hcs, RdN.nil_ _ _ _, (by simp), (fun l hl => by cases hl)⟩
  · simp at hcs
    have hC : Tryz.prog.cellsOf 79 = 4 := by kernel_rfl
    have hB : Tryz.prog.bytesOf 79 = 32 := by kernel_rfl
    rw [hC] at hi
    obtain ⟨z1, z2⟩ := sz_slice hs Tryz.underlying75
    rw [hB] at z1
    simp only [List.length_map, List.length_range, reachBytes] at z1
    have hnm : n ≤ m := by rw [hmm]; split <;> omega
    obtain ⟨gs, hl2, hp⟩ := choose_list (α := Ln) (p := fun i l => (∀ j u, (lncells l).toList[j]? = some u → w.cell? ((x.add (i * 4)).add j) = some u) ∧ LnWf l) n fun i hin => by
      obtain ⟨cs, hc, ht⟩ := hi i (by omega)
      obtain ⟨_, hcl, hat⟩ := World.cells?_some hc
      obtain ⟨l, rfl, hw⟩ := open_ln ht (z2 (D i) (by simp; exact ⟨i, hin, rfl⟩))
      exact ⟨l, fun j u hu => by
        have hj : j < 4 := by have := (List.getElem?_eq_some_iff.1 hu).1; simpa [lncells] using this
        rw [hat j hj]; exact hu, hw⟩
    subst hl2
    refine ⟨some x, c, gs, hcs, ⟨lnCells_len gs, fun h0 => ?_⟩, by omega, fun l hl => ?_⟩
    · have h1 := (hp 0 gs[0] (List.getElem?_eq_getElem (by omega))).1 0 _ rfl
      obtain ⟨b, o, rfl⟩ := addr_spot (x := x) (by rw [Nat.zero_mul] at h1; exact h1)
      refine ⟨b, o, rfl, fun j u hu => ?_⟩
      have hj : j < gs.length * 4 := by
        have := (List.getElem?_eq_some_iff.1 hu).1
        rw [lnCells_len] at this
        omega
      have hg : gs[j / 4]? = some gs[j / 4] := List.getElem?_eq_getElem (by omega)
      have h2 := lnCells_at gs (j / 4) (j % 4) _ hg (by omega)
      rw [show j / 4 * 4 + j % 4 = j by omega, hu] at h2
      have h3 := (hp (j / 4) _ hg).1 (j % 4) u h2.symm
      rw [addr_add, addr_add, show o + j / 4 * 4 + j % 4 = o + j by omega] at h3
      exact h3
    · obtain ⟨i, hi2⟩ := List.mem_iff_getElem?.1 hl
      exact (hp i l hi2).2
set_option maxRecDepth 100000 in
set_option maxHeartbeats 1000000 in
theorem open_st {fuel : Nat} {cs : List Value} {y : DataW H × List MemPlace} (h : DataW.trod enc Tryz.prog w base spare held fuel 77 cs = some y) (hs : Sz Tryz.prog 77 y.1) :
    ∃ s A c, cs = (stcells s A c).toList ∧ LsRd w A s.lines ∧ StWf s := by
  obtain ⟨ys, n, _, rfl, hlen, hyl, hf⟩ := DataW.trod_struct Tryz.underlying77 h
  have hC : Tryz.prog.cellsOf 77 = 12 := by kernel_rfl
  have k0 : Tryz.prog.cellsOf 75 = 1 := by kernel_rfl
  have k1 : Tryz.prog.cellsOf 74 = 1 := by kernel_rfl
  have k2 : Tryz.prog.cellsOf 3 = 1 := by kernel_rfl
  have k3 : Tryz.prog.cellsOf 9 = 1 := by kernel_rfl
  rw [hC] at hlen
  match cs, hlen with
  | [c0, c1, c2, c3, c4, c5, c6, c7, c8, c9, c10, c11], _ =>
    match ys, hyl with
    | [y0, y1, y2, y3, y4, y5, y6, y7, y8, y9, y10, y11], _ =>
      have h0 : DataW.trod enc Tryz.prog w base spare held n 3 (List.take (Tryz.prog.cellsOf 3) [c0, c1, c2, c3, c4, c5, c6, c7, c8, c9, c10, c11]) = some y0 := hf 0 _ rfl
      have h1 : DataW.trod enc Tryz.prog w base spare held n 74 (List.take (Tryz.prog.cellsOf 74) [c1, c2, c3, c4, c5, c6, c7, c8, c9, c10, c11]) = some y1 := hf 1 _ rfl
      have h2 : DataW.trod enc Tryz.prog w base spare held n 74 (List.take (Tryz.prog.cellsOf 74) [c2, c3, c4, c5, c6, c7, c8, c9, c10, c11]) = some y2 := hf 2 _ rfl
      have h3 : DataW.trod enc Tryz.prog w base spare held n 3 (List.take (Tryz.prog.cellsOf 3) [c3, c4, c5, c6, c7, c8, c9, c10, c11]) = some y3 := hf 3 _ rfl
      have h4 : DataW.trod enc Tryz.prog w base spare held n 3 (List.take (Tryz.prog.cellsOf 3) [c4, c5, c6, c7, c8, c9, c10, c11]) = some y4 := hf 4 _ rfl
      have h5 : DataW.trod enc Tryz.prog w base spare held n 75 (List.take (Tryz.prog.cellsOf 75) [c5, c6, c7, c8, c9, c10, c11]) = some y5 := hf 5 _ rfl
      have h6 : DataW.trod enc Tryz.prog w base spare held n 3 (List.take (Tryz.prog.cellsOf 3) [c6, c7, c8, c9, c10, c11]) = some y6 := hf 6 _ rfl
      have h7 : DataW.trod enc Tryz.prog w base spare held n 3 (List.take (Tryz.prog.cellsOf 3) [c7, c8, c9, c10, c11]) = some y7 := hf 7 _ rfl
      have h8 : DataW.trod enc Tryz.prog w base spare held n 3 (List.take (Tryz.prog.cellsOf 3) [c8, c9, c10, c11]) = some y8 := hf 8 _ rfl
      have h9 : DataW.trod enc Tryz.prog w base spare held n 3 (List.take (Tryz.prog.cellsOf 3) [c9, c10, c11]) = some y9 := hf 9 _ rfl
      have h10 : DataW.trod enc Tryz.prog w base spare held n 3 (List.take (Tryz.prog.cellsOf 3) [c10, c11]) = some y10 := hf 10 _ rfl
      have h11 : DataW.trod enc Tryz.prog w base spare held n 9 (List.take (Tryz.prog.cellsOf 9) [c11]) = some y11 := hf 11 _ rfl
      rw [k2] at h0
      rw [k1] at h1
      rw [k1] at h2
      rw [k2] at h3
      rw [k2] at h4
      have z5 : Sz Tryz.prog 75 y5.1 := sz_agg hs Tryz.underlying77 (j := 5) rfl rfl
      rw [k0] at h5
      rw [k2] at h6
      rw [k2] at h7
      rw [k2] at h8
      rw [k2] at h9
      rw [k2] at h10
      have z11 : Sz Tryz.prog 9 y11.1 := sz_agg hs Tryz.underlying77 (j := 11) rfl rfl
      rw [k3] at h11
      obtain ⟨m0, e0, _, w0⟩ := DataW.trod_int Tryz.underlying3 h0
      obtain ⟨m1, e1, _, w1⟩ := DataW.trod_int Tryz.underlying74 h1
      obtain ⟨m2, e2, _, w2⟩ := DataW.trod_int Tryz.underlying74 h2
      obtain ⟨m3, e3, _, w3⟩ := DataW.trod_int Tryz.underlying3 h3
      obtain ⟨m4, e4, _, w4⟩ := DataW.trod_int Tryz.underlying3 h4
      obtain ⟨A, cc, m5, e5, hr, hk, hl⟩ := open_lines h5 z5
      obtain ⟨m6, e6, _, w6⟩ := DataW.trod_int Tryz.underlying3 h6
      obtain ⟨m7, e7, _, w7⟩ := DataW.trod_int Tryz.underlying3 h7
      obtain ⟨m8, e8, _, w8⟩ := DataW.trod_int Tryz.underlying3 h8
      obtain ⟨m9, e9, _, w9⟩ := DataW.trod_int Tryz.underlying3 h9
      obtain ⟨m10, e10, _, w10⟩ := DataW.trod_int Tryz.underlying3 h10
      obtain ⟨m11, e11, x11, _⟩ := DataW.trod_string Tryz.underlying9 h11
      have s11 : m11.size ≤ 140737488351232 := by rw [x11] at z11; have := z11 m11.data.toList.length (by simp [DataW.weights]); simpa [reachBytes] using this
      simp at e0 e1 e2 e3 e4 e6 e7 e8 e9 e10 e11
      subst e0 e1 e2 e3 e4 e5 e6 e7 e8 e9 e10 e11
      exact ⟨⟨m0, m1, m2, m3, m4, m5, m6, m7, m8, m9, m10, m11⟩, A, cc, rfl, hr, ⟨i64_of w0, i64_of w1, i64_of w2, i64_of w3, i64_of w4⟩, ⟨i64_of w6, i64_of w7, i64_of w8, i64_of w9, i64_of w10⟩, s11, (by dsimp only; omega), hl⟩
set_option maxRecDepth 100000 in
set_option maxHeartbeats 1000000 in
theorem open_ev {fuel : Nat} {cs : List Value} {y : DataW H × List MemPlace} (h : DataW.trod enc Tryz.prog w base spare held fuel 165 cs = some y) (hs : Sz Tryz.prog 165 y.1) :
    ∃ e, cs = (evcells e).toList ∧ EvWf e := by
  obtain ⟨ys, n, _, rfl, hlen, hyl, hf⟩ := DataW.trod_struct Tryz.underlying165 h
  have hC : Tryz.prog.cellsOf 165 = 10 := by kernel_rfl
  have k0 : Tryz.prog.cellsOf 163 = 1 := by kernel_rfl
  have k1 : Tryz.prog.cellsOf 3 = 1 := by kernel_rfl
  have k2 : Tryz.prog.cellsOf 9 = 1 := by kernel_rfl
  rw [hC] at hlen
  match cs, hlen with
  | [c0, c1, c2, c3, c4, c5, c6, c7, c8, c9], _ =>
    match ys, hyl with
    | [y0, y1, y2, y3, y4, y5, y6, y7, y8, y9], _ =>
      have h0 : DataW.trod enc Tryz.prog w base spare held n 163 (List.take (Tryz.prog.cellsOf 163) [c0, c1, c2, c3, c4, c5, c6, c7, c8, c9]) = some y0 := hf 0 _ rfl
      have h1 : DataW.trod enc Tryz.prog w base spare held n 3 (List.take (Tryz.prog.cellsOf 3) [c1, c2, c3, c4, c5, c6, c7, c8, c9]) = some y1 := hf 1 _ rfl
      have h2 : DataW.trod enc Tryz.prog w base spare held n 3 (List.take (Tryz.prog.cellsOf 3) [c2, c3, c4, c5, c6, c7, c8, c9]) = some y2 := hf 2 _ rfl
      have h3 : DataW.trod enc Tryz.prog w base spare held n 3 (List.take (Tryz.prog.cellsOf 3) [c3, c4, c5, c6, c7, c8, c9]) = some y3 := hf 3 _ rfl
      have h4 : DataW.trod enc Tryz.prog w base spare held n 3 (List.take (Tryz.prog.cellsOf 3) [c4, c5, c6, c7, c8, c9]) = some y4 := hf 4 _ rfl
      have h5 : DataW.trod enc Tryz.prog w base spare held n 3 (List.take (Tryz.prog.cellsOf 3) [c5, c6, c7, c8, c9]) = some y5 := hf 5 _ rfl
      have h6 : DataW.trod enc Tryz.prog w base spare held n 3 (List.take (Tryz.prog.cellsOf 3) [c6, c7, c8, c9]) = some y6 := hf 6 _ rfl
      have h7 : DataW.trod enc Tryz.prog w base spare held n 9 (List.take (Tryz.prog.cellsOf 9) [c7, c8, c9]) = some y7 := hf 7 _ rfl
      have h8 : DataW.trod enc Tryz.prog w base spare held n 3 (List.take (Tryz.prog.cellsOf 3) [c8, c9]) = some y8 := hf 8 _ rfl
      have h9 : DataW.trod enc Tryz.prog w base spare held n 9 (List.take (Tryz.prog.cellsOf 9) [c9]) = some y9 := hf 9 _ rfl
      rw [k0] at h0
      rw [k1] at h1
      rw [k1] at h2
      rw [k1] at h3
      rw [k1] at h4
      rw [k1] at h5
      rw [k1] at h6
      have z7 : Sz Tryz.prog 9 y7.1 := sz_agg hs Tryz.underlying165 (j := 7) rfl rfl
      rw [k2] at h7
      rw [k1] at h8
      have z9 : Sz Tryz.prog 9 y9.1 := sz_agg hs Tryz.underlying165 (j := 9) rfl rfl
      rw [k2] at h9
      obtain ⟨m0, e0, _, w0⟩ := DataW.trod_int Tryz.underlying163 h0
      obtain ⟨m1, e1, _, w1⟩ := DataW.trod_int Tryz.underlying3 h1
      obtain ⟨m2, e2, _, w2⟩ := DataW.trod_int Tryz.underlying3 h2
      obtain ⟨m3, e3, _, w3⟩ := DataW.trod_int Tryz.underlying3 h3
      obtain ⟨m4, e4, _, w4⟩ := DataW.trod_int Tryz.underlying3 h4
      obtain ⟨m5, e5, _, w5⟩ := DataW.trod_int Tryz.underlying3 h5
      obtain ⟨m6, e6, _, w6⟩ := DataW.trod_int Tryz.underlying3 h6
      obtain ⟨m7, e7, x7, _⟩ := DataW.trod_string Tryz.underlying9 h7
      have s7 : m7.size ≤ 140737488351232 := by rw [x7] at z7; have := z7 m7.data.toList.length (by simp [DataW.weights]); simpa [reachBytes] using this
      obtain ⟨m8, e8, _, w8⟩ := DataW.trod_int Tryz.underlying3 h8
      obtain ⟨m9, e9, x9, _⟩ := DataW.trod_string Tryz.underlying9 h9
      have s9 : m9.size ≤ 140737488351232 := by rw [x9] at z9; have := z9 m9.data.toList.length (by simp [DataW.weights]); simpa [reachBytes] using this
      simp at e0 e1 e2 e3 e4 e5 e6 e7 e8 e9
      subst e0 e1 e2 e3 e4 e5 e6 e7 e8 e9
      exact ⟨⟨m0, m1, m2, m3, m4, m5, m6, m7, m8, m9⟩, rfl, ⟨i64_of w0, i64_of w1, i64_of w2, i64_of w3, i64_of w4, i64_of w5, i64_of w6, i64_of w8⟩, s7, s9⟩
set_option maxRecDepth 100000 in
theorem open_evs {fuel : Nat} {v : Value} {y : DataW H × List MemPlace} (h : DataW.trod enc Tryz.prog w base spare held fuel 86 [v] = some y) (hs : Sz Tryz.prog 86 y.1) :
    ∃ A c ls, v = .slice A (ls : List Ev).length c ∧ EsRd w A ls ∧ ls.length * 96 ≤ 140737488351232 ∧ ∀ l ∈ ls, EvWf l := by
  rcases open_slice Tryz.underlying86 h with ⟨hcs, _⟩ | ⟨x, n, c, m, k, D, Pl, hcs, _, hl, hm, hmm, rfl, hi⟩
  · simp at hcs
    exact ⟨none, 0, [], hcs, RdN.nil_ _ _ _, (by simp), (fun l hl => by cases hl)⟩
  · simp at hcs
    have hC : Tryz.prog.cellsOf 165 = 10 := by kernel_rfl
    have hB : Tryz.prog.bytesOf 165 = 96 := by kernel_rfl
    rw [hC] at hi
    obtain ⟨z1, z2⟩ := sz_slice hs Tryz.underlying86
    rw [hB] at z1
    simp only [List.length_map, List.length_range, reachBytes] at z1
    have hnm : n ≤ m := by rw [hmm]; split <;> omega
    obtain ⟨gs, hl2, hp⟩ := choose_list (α := Ev) (p := fun i l => (∀ j u, (evcells l).toList[j]? = some u → w.cell? ((x.add (i * 10)).add j) = some u) ∧ EvWf l) n fun i hin => by
      obtain ⟨cs, hc, ht⟩ := hi i (by omega)
      obtain ⟨_, hcl, hat⟩ := World.cells?_some hc
      obtain ⟨l, rfl, hw⟩ := open_ev ht (z2 (D i) (by simp; exact ⟨i, hin, rfl⟩))
      exact ⟨l, fun j u hu => by
        have hj : j < 10 := by have := (List.getElem?_eq_some_iff.1 hu).1; simpa [evcells] using this
        rw [hat j hj]; exact hu, hw⟩
    subst hl2
    refine ⟨some x, c, gs, hcs, ⟨evCells_len gs, fun h0 => ?_⟩, by omega, fun l hl => ?_⟩
    · have h1 := (hp 0 gs[0] (List.getElem?_eq_getElem (by omega))).1 0 _ rfl
      obtain ⟨b, o, rfl⟩ := addr_spot (x := x) (by rw [Nat.zero_mul] at h1; exact h1)
      refine ⟨b, o, rfl, fun j u hu => ?_⟩
      have hj : j < gs.length * 10 := by
        have := (List.getElem?_eq_some_iff.1 hu).1
        rw [evCells_len] at this
        omega
      have hg : gs[j / 10]? = some gs[j / 10] := List.getElem?_eq_getElem (by omega)
      have h2 := evCells_at gs (j / 10) (j % 10) _ hg (by omega)
      rw [show j / 10 * 10 + j % 10 = j by omega, hu] at h2
      have h3 := (hp (j / 10) _ hg).1 (j % 10) u h2.symm
      rw [addr_add, addr_add, show o + j / 10 * 10 + j % 10 = o + j by omega] at h3
      exact h3
    · obtain ⟨i, hi2⟩ := List.mem_iff_getElem?.1 hl
      exact (hp i l hi2).2
end
end Go.Proofs.YtjajbbgebblalaaGreatDoor

namespace Go.Proofs.YtjajbbgebblalaaGreatDoor
open Go.RowKit
set_option linter.unusedVariables false
set_option linter.unusedSimpArgs false
open Go.ChangeShapes Go.WideShapes Go.Deep
theorem evs_cap {H : Type} {enc : TypeId × Value → H} {w : World} {base : Nat} {spare : Nat → Bool} {held : Bool} {fuel : Nat} {A : Option Addr} {n c : Nat} {y : DataW H × List MemPlace} (h : DataW.trod enc Tryz.prog w base spare held fuel 86 [.slice A n c] = some y) : n ≤ c := by
  rcases open_slice Tryz.underlying86 h with ⟨hcs, _⟩ | ⟨x, n2, c2, m, k, D, Pl, hcs, _, hl, hm, hmm, rfl, hi⟩
  · simp at hcs; omega
  · simp at hcs; omega
end Go.Proofs.YtjajbbgebblalaaGreatDoor

namespace Go.Proofs.YtjajbbgebblalaaGreatDoor
open Go.RowKit
set_option linter.unusedVariables false
set_option linter.unusedSimpArgs false
open Go.ChangeShapes Go.WideShapes Go.Deep
section
variable {H : Type} {enc : TypeId × Value → H} {w : World} {base : Nat} {spare : Nat → Bool} {held : Bool}
theorem bulk_one (d : DataW H) : 1 ≤ Rows.uptoBulk d := by
  cases d with
  | lit l => cases l <;> simp [Rows.uptoBulk]
  | nil => simp [Rows.uptoBulk]
  | ptr d => simp [Rows.uptoBulk]
  | slice elems spare => simp [Rows.uptoBulk]
  | agg parts => simp [Rows.uptoBulk]
  | iface t d => simp [Rows.uptoBulk]
  | map entries => simp [Rows.uptoBulk]
  | held h => simp [Rows.uptoBulk]
theorem bulk_part {d : DataW H} {l : List (DataW H)} (h : d ∈ l) : Rows.uptoBulk d ≤ Rows.uptoBulkAll l := by
  induction l with
  | nil => cases h
  | cons x r ih =>
    simp only [Rows.uptoBulkAll]
    cases List.mem_cons.1 h with
    | inl e => subst e; omega
    | inr e => have := ih e; omega
theorem bulk_len (l : List (DataW H)) : l.length ≤ Rows.uptoBulkAll l := by
  induction l with
  | nil => simp [Rows.uptoBulkAll]
  | cons x r ih => have := bulk_one x; simp only [Rows.uptoBulkAll, List.length_cons]; omega
/-- A slice's length is within the bulk. -/
theorem bulk_slice {P : Program} {t e : TypeId} {fuel n c : Nat} {A : Option Addr} {y : DataW H × List MemPlace} (hu : P.underlying t = some (.slice e)) (h : DataW.trod enc P w base spare held fuel t [.slice A n c] = some y) : n ≤ Rows.uptoBulk y.1 := by
  rcases DataW.trod_slice hu h with ⟨h1, _⟩ | ⟨a, len, cap, elems, rest, m, _, h1, rfl, _, _, _, hlen, _⟩
  · simp at h1
    omega
  · simp at h1
    have h2 := bulk_len (elems.map (·.1))
    simp only [Rows.uptoBulk, List.length_map] at h2 ⊢
    omega
theorem bulk_max {l : List (DataW H)} (hk : Rows.uptoSmall H l = true) : Rows.uptoBulkAll l ≤ 1048576 := of_decide_eq_true hk
theorem bulk_arg {l : List (DataW H)} (hk : Rows.uptoSmall H l = true) {P : Program} {t e : TypeId} {fuel n c j : Nat} {A : Option Addr} {y : DataW H × List MemPlace} (hu : P.underlying t = some (.slice e)) (h : DataW.trod enc P w base spare held fuel t [.slice A n c] = some y) (hj : l[j]? = some y.1) : n ≤ 1048576 := by
  have h1 := bulk_slice hu h
  have h2 := bulk_part (List.mem_of_getElem? hj)
  have h3 := bulk_max hk
  omega
theorem sm_wf {s : St} (h : StWf s) : StSm s := ⟨h.2.2.2.1, Nat.le_trans h.2.2.1 (by decide)⟩
set_option maxRecDepth 100000 in
theorem open_sts {fuel : Nat} {v : Value} {y : DataW H × List MemPlace} (h : DataW.trod enc Tryz.prog w base spare held fuel 61 [v] = some y) (hs : Sz Tryz.prog 61 y.1) :
    ∃ A c gs, v = .slice A (gs : List HSt).length c ∧ SsRd w A gs.length (gs.map (·.1)) ∧ ∀ g ∈ gs, StWf g.1 := by
  rcases open_slice Tryz.underlying61 h with ⟨hcs, _⟩ | ⟨x, n, c, m, k, D, Pl, hcs, _, hl, hm, hmm, rfl, hi⟩
  · simp at hcs
    exact ⟨none, 0, [], hcs, ⟨[], rfl, RdN.nil_ _ _ _, fun h hh => by cases hh⟩, (fun l hl => by cases hl)⟩
  · simp at hcs
    have hC : Tryz.prog.cellsOf 77 = 12 := by kernel_rfl
    rw [hC] at hi
    obtain ⟨z1, z2⟩ := sz_slice hs Tryz.underlying61
    have hnm : n ≤ m := by rw [hmm]; split <;> omega
    obtain ⟨gs, hl2, hp⟩ := choose_list (α := HSt) (p := fun i l => (∀ j u, (sscells l.1 l.2.1 l.2.2).toList[j]? = some u → w.cell? ((x.add (i * 12)).add j) = some u) ∧ LsRd w l.2.1 l.1.lines ∧ StWf l.1) n fun i hin => by
      obtain ⟨cs, hc, ht⟩ := hi i (by omega)
      obtain ⟨_, hcl, hat⟩ := World.cells?_some hc
      obtain ⟨s, A2, c2, rfl, hr, hw⟩ := open_st ht (z2 (D i) (by simp; exact ⟨i, hin, rfl⟩))
      exact ⟨(s, A2, c2), fun j u hu => by
        have hj : j < 12 := by have := (List.getElem?_eq_some_iff.1 hu).1; rwa [Array.length_toList, sscells_size] at this
        rw [hat j hj]; exact hu, hr, hw⟩
    subst hl2
    refine ⟨some x, c, gs, hcs, ⟨gs, rfl, ⟨ssCells_len gs, fun h0 => ?_⟩, fun g hg => ?_⟩, fun g hg => ?_⟩
    · have h1 := (hp 0 gs[0] (List.getElem?_eq_getElem (by omega))).1 0 _ rfl
      obtain ⟨b, o, rfl⟩ := addr_spot (x := x) (by rw [Nat.zero_mul] at h1; exact h1)
      refine ⟨b, o, rfl, fun j u hu => ?_⟩
      have hj : j < gs.length * 12 := by
        have := (List.getElem?_eq_some_iff.1 hu).1
        rw [ssCells_len] at this
        omega
      have hg : gs[j / 12]? = some gs[j / 12] := List.getElem?_eq_getElem (by omega)
      have h2 := ssCells_at gs (j / 12) (j % 12) _ hg (by omega)
      rw [show j / 12 * 12 + j % 12 = j by omega, hu] at h2
      have h3 := (hp (j / 12) _ hg).1 (j % 12) u h2.symm
      rw [addr_add, addr_add, show o + j / 12 * 12 + j % 12 = o + j by omega] at h3
      exact h3
    · obtain ⟨i, hi2⟩ := List.mem_iff_getElem?.1 hg
      exact (hp i g hi2).2.1
    · obtain ⟨i, hi2⟩ := List.mem_iff_getElem?.1 hg
      exact (hp i g hi2).2.2
end
end Go.Proofs.YtjajbbgebblalaaGreatDoor
