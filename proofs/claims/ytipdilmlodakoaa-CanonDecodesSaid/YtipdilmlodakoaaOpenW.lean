/-
  Arguments opened: sizes at every depth, bytes, slices of fields.
-/
import Derived.Test.YtipdilmlodakoaaFsW
import Derived.ProofKit
import Derived.OpenShut
import Derived.SizedLaws
import Derived.Deep.Slices
import Derived.Deep.Fields
import Derived.ChangeSame
namespace Go.Proofs.Ytipdilmlodakoaa
open Go.RowKit
set_option linter.unusedVariables false
set_option linter.unusedSimpArgs false
open Go.ChangeShapes Go.WideShapes Go.Deep
section
variable {H : Type} {P : Program}
/-- At every depth of the datum nothing is larger than the reach. -/
def Sz (P : Program) (t : TypeId) (d : DataW H) : Prop := ∀ n ∈ d.weights P t, n ≤ reachBytes
theorem sz_of {ts : List TypeId} {ds : List (DataW H)} (h : (DataW.weightsEach P ts ds).all (· ≤ reachBytes) = true) {j : Nat} {t : TypeId} {d : DataW H} (ht : ts[j]? = some t) (hd : ds[j]? = some d) : Sz P t d := fun n hn => by
  simpa using List.all_eq_true.1 h n (DataW.weights_mem_each ht hd n hn)
theorem all_mem {e : TypeId} {l : List (DataW H)} {d : DataW H} (hd : d ∈ l) : ∀ n ∈ d.weights P e, n ∈ DataW.weightsAll P e l := by
  induction l with
  | nil => cases hd
  | cons x r ih =>
    intro n hn
    rw [DataW.weightsAll, List.mem_append]
    rcases List.mem_cons.1 hd with rfl | hd
    · exact .inl hn
    · exact .inr (ih hd n hn)
theorem sz_slice {t e : TypeId} {el sp : List (DataW H)} (h : Sz P t (.slice el sp)) (hu : P.underlying t = some (.slice e)) : (el.length + sp.length) * P.bytesOf e ≤ reachBytes ∧ ∀ d ∈ el, Sz P e d := by
  have hw : (DataW.slice el sp : DataW H).weights P t = (el.length + sp.length) * P.bytesOf e :: (DataW.weightsAll P e el ++ DataW.weightsAll P e sp) := by rw [DataW.weights, hu]
  refine ⟨h _ (by rw [hw]; exact List.mem_cons_self ..), fun d hd n hn => h n ?_⟩
  rw [hw]
  exact List.mem_cons_of_mem _ (List.mem_append_left _ (all_mem hd n hn))
theorem sz_agg {t : TypeId} {fs : Array Field} {parts : List (DataW H)} (h : Sz P t (.agg parts)) (hu : P.underlying t = some (.struct fs)) {j : Nat} {f : Field} {d : DataW H} (hf : fs[j]? = some f) (hd : parts[j]? = some d) : Sz P f.type d := fun n hn => by
  refine h n ?_
  have hw : (DataW.agg parts : DataW H).weights P t = DataW.weightsEach P (fs.toList.map (·.type)) parts := by rw [DataW.weights, hu]
  rw [hw]
  exact DataW.weights_mem_each (j := j) (by simp [hf]) hd n hn
theorem choose_list {α : Type} {p : Nat → α → Prop} (n : Nat) (h : ∀ i, i < n → ∃ x, p i x) : ∃ l : List α, l.length = n ∧ ∀ i x, l[i]? = some x → p i x := by
  induction n with
  | zero => exact ⟨[], rfl, fun i x hx => by simp at hx⟩
  | succ n ih =>
    obtain ⟨l, hl, hp⟩ := ih fun i hi => h i (by omega)
    obtain ⟨x, hx⟩ := h n (by omega)
    refine ⟨l ++ [x], by simp [hl], fun i y hy => ?_⟩
    by_cases hi : i < n
    · rw [List.getElem?_append_left (by omega)] at hy
      exact hp i y hy
    · rw [List.getElem?_append_right (by omega)] at hy
      have : i = n := by
        have := (List.getElem?_eq_some_iff.1 hy).1
        simp at this
        omega
      subst this
      simp [hl] at hy
      subst hy
      exact hx
end
theorem addr_add (b o j : Nat) : (⟨b, o, none⟩ : Addr).add j = ⟨b, o + j, none⟩ := by by_cases h : j = 0 <;> simp [Addr.add, h]
theorem addr_spot {w : World} {x : Addr} {v : Value} (h : w.cell? (x.add 0) = some v) : ∃ b o, x = ⟨b, o, none⟩ := by
  obtain ⟨b, o, sp⟩ := x
  have hsp : sp = none := by simpa [Addr.add] using World.cell?_spot h
  subst hsp
  exact ⟨b, o, rfl⟩
section
variable {H : Type} {enc : TypeId × Value → H} {w : World} {base : Nat} {spare : Nat → Bool} {held : Bool}
theorem open_bytes {fuel : Nat} {v : Value} {y : DataW H × List MemPlace} (h : DataW.trod enc Try.prog w base spare held fuel 22 [v] = some y) (hs : Sz Try.prog 22 y.1) :
    ∃ A n c l, v = .slice A n c ∧ Rd w A n (u8s l) ∧ n ≤ c ∧ n ≤ 140737488351232 := by
  rcases open_ints Try.underlying22 Try.underlying5 (by kernel_rfl) h with ⟨hcs, _⟩ | ⟨x, n, c, zs, hcs, _, hl, hm, hz, hx, hcell, hwz⟩
  · simp at hcs
    exact ⟨none, 0, 0, [], hcs, Rd.nil_ _ _, by omega, by omega⟩
  · simp at hcs
    have hn : n ≤ zs.length := by rw [hz]; split <;> omega
    have hb : Try.prog.bytesOf 5 = 1 := by kernel_rfl
    rw [hx] at hs
    have hw := (sz_slice hs Try.underlying22).1
    rw [hb] at hw
    simp only [lits, List.length_map, List.length_take, List.length_drop, reachBytes] at hw
    refine ⟨_, _, _, (zs.take n).map fun z => UInt8.ofNat z.toNat, hcs, ⟨by simp [u8s]; omega, fun h0 => ?_⟩, hl, by omega⟩
    obtain ⟨b, o, rfl⟩ := addr_spot (hcell 0 (by omega))
    refine ⟨b, o, rfl, fun j u hu => ?_⟩
    have hj : j < n := by
      have := (List.getElem?_eq_some_iff.1 hu).1
      simp [u8s] at this
      omega
    have h1 := hcell j (by omega)
    rw [addr_add] at h1
    rw [h1]
    have hzj : zs[j]? = some zs[j] := List.getElem?_eq_getElem (by omega)
    have h2 : zs.getD j 0 = zs[j] := by simp [List.getD, hzj]
    have h3 := hwz zs[j] (List.getElem_mem _)
    have hb8 : 0 ≤ zs[j] ∧ zs[j] ≤ 255 := by simpa [Lit.wf, IntKind.signed, IntKind.bits, IntKind.min, IntKind.max] using h3
    simp [u8s, hj, hzj] at hu
    rw [h2, ← hu]
    simp
    omega
set_option maxRecDepth 100000 in
theorem open_fld {fuel : Nat} {cs : List Value} {y : DataW H × List MemPlace} (h : DataW.trod enc Try.prog w base spare held fuel 54 cs = some y) (hs : Sz Try.prog 54 y.1) :
    ∃ f A c, cs = (fcells f A c).toList ∧ f.wf ∧ Rd w A f.bytes.length (u8s f.bytes) ∧ f.bytes.length ≤ 140737488351232 := by
  obtain ⟨ys, n, _, rfl, hlen, hyl, hf⟩ := DataW.trod_struct Try.underlying54 h
  have hC : Try.prog.cellsOf 54 = 4 := by kernel_rfl
  have k0 : Try.prog.cellsOf 3 = 1 := by kernel_rfl
  have k1 : Try.prog.cellsOf 4 = 1 := by kernel_rfl
  have k2 : Try.prog.cellsOf 52 = 1 := by kernel_rfl
  have k3 : Try.prog.cellsOf 22 = 1 := by kernel_rfl
  rw [hC] at hlen
  match cs, hlen with
  | [c0, c1, c2, c3], _ =>
    match ys, hyl with
    | [y0, y1, y2, y3], _ =>
      have h0 : DataW.trod enc Try.prog w base spare held n 3 (List.take (Try.prog.cellsOf 3) [c0, c1, c2, c3]) = some y0 := hf 0 _ rfl
      have h1 : DataW.trod enc Try.prog w base spare held n 4 (List.take (Try.prog.cellsOf 4) [c1, c2, c3]) = some y1 := hf 1 _ rfl
      have h2 : DataW.trod enc Try.prog w base spare held n 52 (List.take (Try.prog.cellsOf 52) [c2, c3]) = some y2 := hf 2 _ rfl
      have h3 : DataW.trod enc Try.prog w base spare held n 22 (List.take (Try.prog.cellsOf 22) [c3]) = some y3 := hf 3 _ rfl
      have z3 : Sz Try.prog 22 y3.1 := sz_agg hs Try.underlying54 (j := 3) rfl rfl
      rw [k0] at h0
      rw [k1] at h1
      rw [k2] at h2
      rw [k3] at h3
      obtain ⟨a, e0, _, w0⟩ := DataW.trod_int Try.underlying3 h0
      obtain ⟨b, e1, _⟩ := DataW.trod_bool Try.underlying4 h1
      obtain ⟨m, e2, _, w2⟩ := DataW.trod_int Try.underlying52 h2
      obtain ⟨A, k, c, l, e3, hr, _, hk⟩ := open_bytes h3 z3
      simp at e0 e1 e2
      subst e0 e1 e2 e3
      simp [Lit.wf, IntKind.min, IntKind.max, IntKind.signed, IntKind.bits] at w0 w2
      have hl : l.length = k := by have := hr.1; rw [u8s_len] at this; exact this
      subst hl
      refine ⟨⟨a, b, m.toNat, l⟩, A, c, ?_, ⟨by dsimp only; omega, by dsimp only; omega, by dsimp only; omega⟩, hr, hk⟩
      simp [fcells]
      omega
set_option maxRecDepth 100000 in
theorem open_fields {fuel : Nat} {v : Value} {y : DataW H × List MemPlace} (h : DataW.trod enc Try.prog w base spare held fuel 48 [v] = some y) (hs : Sz Try.prog 48 y.1) :
    ∃ A n c fs, v = .slice A n c ∧ FsRd w A n fs ∧ FWf fs ∧ n * 48 ≤ 140737488351232 ∧ ∀ f ∈ fs, f.bytes.length ≤ 140737488351232 := by
  rcases open_slice Try.underlying48 h with ⟨hcs, _⟩ | ⟨x, n, c, m, k, D, Pl, hcs, _, hl, hm, hmm, rfl, hi⟩
  · simp at hcs
    exact ⟨none, 0, 0, [], hcs, ⟨[], rfl, RdN.nil_ _ _ _, (fun h hh => by cases hh)⟩, (fun f hf => by cases hf), by omega, (fun f hf => by cases hf)⟩
  · simp at hcs
    have hC : Try.prog.cellsOf 54 = 4 := by kernel_rfl
    have hB : Try.prog.bytesOf 54 = 48 := by kernel_rfl
    rw [hC] at hi
    obtain ⟨z1, z2⟩ := sz_slice hs Try.underlying48
    rw [hB] at z1
    simp only [List.length_map, List.length_range, reachBytes] at z1
    have hnm : n ≤ m := by rw [hmm]; split <;> omega
    obtain ⟨gs, hl2, hp⟩ := choose_list (α := Held) (p := fun i h => (∀ j u, (fcells h.1 h.2.1 h.2.2).toList[j]? = some u → w.cell? ((x.add (i * 4)).add j) = some u) ∧ Rd w h.2.1 h.1.bytes.length (u8s h.1.bytes) ∧ h.1.wf ∧ h.1.bytes.length ≤ 140737488351232) n fun i hin => by
      obtain ⟨cs, hc, ht⟩ := hi i (by omega)
      obtain ⟨_, hcl, hat⟩ := World.cells?_some hc
      obtain ⟨f, A, c2, rfl, hw, hr, hk⟩ := open_fld ht (z2 (D i) (by simp; exact ⟨i, hin, rfl⟩))
      exact ⟨(f, A, c2), fun j u hu => by
        have hj : j < 4 := by have := (List.getElem?_eq_some_iff.1 hu).1; simpa [fcells] using this
        rw [hat j hj]; exact hu, hr, hw, hk⟩
    refine ⟨some x, n, c, gs.map (·.1), hcs, ⟨gs, rfl, ⟨by rw [fsCells_len, hl2], fun h0 => ?_⟩, fun h hh => ?_⟩, fun f hf => ?_, by omega, fun f hf => ?_⟩
    · have h1 := (hp 0 gs[0] (List.getElem?_eq_getElem (by omega))).1 0 _ rfl
      obtain ⟨b, o, rfl⟩ := addr_spot (x := x) (by rw [Nat.zero_mul] at h1; exact h1)
      refine ⟨b, o, rfl, fun j u hu => ?_⟩
      have hj : j < n * 4 := by
        have := (List.getElem?_eq_some_iff.1 hu).1
        rw [fsCells_len] at this
        omega
      have hg : gs[j / 4]? = some gs[j / 4] := List.getElem?_eq_getElem (by omega)
      have h2 := fsCells_at gs (j / 4) (j % 4) _ hg (by omega)
      rw [show j / 4 * 4 + j % 4 = j by omega, hu] at h2
      have h3 := (hp (j / 4) _ hg).1 (j % 4) u h2.symm
      rw [addr_add, addr_add, show o + j / 4 * 4 + j % 4 = o + j by omega] at h3
      exact h3
    · obtain ⟨i, hi2⟩ := List.mem_iff_getElem?.1 hh
      exact (hp i h hi2).2.1
    · obtain ⟨h, hh, rfl⟩ := List.mem_map.1 hf
      obtain ⟨i, hi2⟩ := List.mem_iff_getElem?.1 hh
      exact (hp i h hi2).2.2.1
    · obtain ⟨h, hh, rfl⟩ := List.mem_map.1 hf
      obtain ⟨i, hi2⟩ := List.mem_iff_getElem?.1 hh
      exact (hp i h hi2).2.2.2
end
end Go.Proofs.Ytipdilmlodakoaa
