/-
  Arguments opened, for every type: sizes at every depth, bytes, slices of elements.
-/
import Derived.Test.YtjajbbgebblalaaGreatDoorBytesW
import Derived.ProofKit
import Derived.OpenShut
import Derived.SizedLaws
import Derived.Deep.Slices
import Derived.Deep.Fields
import Derived.ChangeSame
namespace Go.Proofs.YtjajbbgebblalaaGreatDoor
open Go.RowKit
set_option linter.unusedVariables false
set_option linter.unusedSimpArgs false
open Go.ChangeShapes Go.WideShapes Go.Deep
section
variable {H : Type} {P : Program}
/-- At every depth of the datum nothing is larger than the reach. -/
def Sz (P : Program) (t : TypeId) (d : DataW H) : Prop := ∀ n ∈ d.weights P t, n ≤ reachBytes
theorem sz_of {ts : List TypeId} {ds : List (DataW H)} (h : (DataW.weightsEach P ts ds).all (· ≤ reachBytes) = true) {j : Nat} {t : TypeId} {d : DataW H} (ht : ts[j]? = some t) (hd : ds[j]? = some d) : Sz P t d := fun n hn => by
  simpa using List.all_eq_true.1 h n (DataW.weights_mem_each ht hd n hn)
theorem all_mem {e : TypeId} {l : List (DataW H)} {d : DataW H} (hd : d ∈ l) : ∀ n ∈ d.weights P e, n ∈ DataW.weightsAll P e l := by
  induction l with
  | nil => cases hd
  | cons x r ih =>
    intro n hn
    rw [DataW.weightsAll, List.mem_append]
    rcases List.mem_cons.1 hd with rfl | hd
    · exact .inl hn
    · exact .inr (ih hd n hn)
theorem sz_slice {t e : TypeId} {el sp : List (DataW H)} (h : Sz P t (.slice el sp)) (hu : P.underlying t = some (.slice e)) : (el.length + sp.length) * P.bytesOf e ≤ reachBytes ∧ ∀ d ∈ el, Sz P e d := by
  have hw : (DataW.slice el sp : DataW H).weights P t = (el.length + sp.length) * P.bytesOf e :: (DataW.weightsAll P e el ++ DataW.weightsAll P e sp) := by rw [DataW.weights, hu]
  refine ⟨h _ (by rw [hw]; exact List.mem_cons_self ..), fun d hd n hn => h n ?_⟩
  rw [hw]
  exact List.mem_cons_of_mem _ (List.mem_append_left _ (all_mem hd n hn))
theorem sz_agg {t : TypeId} {fs : Array Field} {parts : List (DataW H)} (h : Sz P t (.agg parts)) (hu : P.underlying t = some (.struct fs)) {j : Nat} {f : Field} {d : DataW H} (hf : fs[j]? = some f) (hd : parts[j]? = some d) : Sz P f.type d := fun n hn => by
  refine h n ?_
  have hw : (DataW.agg parts : DataW H).weights P t = DataW.weightsEach P (fs.toList.map (·.type)) parts := by rw [DataW.weights, hu]
  rw [hw]
  exact DataW.weights_mem_each (j := j) (by simp [hf]) hd n hn
theorem choose_list {α : Type} {p : Nat → α → Prop} (n : Nat) (h : ∀ i, i < n → ∃ x, p i x) : ∃ l : List α, l.length = n ∧ ∀ i x, l[i]? = some x → p i x := by
  induction n with
  | zero => exact ⟨[], rfl, fun i x hx => by simp at hx⟩
  | succ n ih =>
    obtain ⟨l, hl, hp⟩ := ih fun i hi => h i (by omega)
    obtain ⟨x, hx⟩ := h n (by omega)
    refine ⟨l ++ [x], by simp [hl], fun i y hy => ?_⟩
    by_cases hi : i < n
    · rw [List.getElem?_append_left (by omega)] at hy
      exact hp i y hy
    · rw [List.getElem?_append_right (by omega)] at hy
      have : i = n := by
        have := (List.getElem?_eq_some_iff.1 hy).1
        simp at this
        omega
      subst this
      simp [hl] at hy
      subst hy
      exact hx
end
theorem addr_add (b o j : Nat) : (⟨b, o, none⟩ : Addr).add j = ⟨b, o + j, none⟩ := by by_cases h : j = 0 <;> simp [Addr.add, h]
theorem addr_spot {w : World} {x : Addr} {v : Value} (h : w.cell? (x.add 0) = some v) : ∃ b o, x = ⟨b, o, none⟩ := by
  obtain ⟨b, o, sp⟩ := x
  have hsp : sp = none := by simpa [Addr.add] using World.cell?_spot h
  subst hsp
  exact ⟨b, o, rfl⟩
section
variable {H : Type} {enc : TypeId × Value → H} {w : World} {base : Nat} {spare : Nat → Bool} {held : Bool}
theorem open_bytes {fuel : Nat} {v : Value} {y : DataW H × List MemPlace} (h : DataW.trod enc Tryz.prog w base spare held fuel 36 [v] = some y) (hs : Sz Tryz.prog 36 y.1) :
    ∃ A n c l, v = .slice A n c ∧ Rd w A n (u8s l) ∧ n ≤ c ∧ n ≤ 140737488351232 := by
  rcases open_ints Tryz.underlying36 Tryz.underlying5 (by kernel_rfl) h with ⟨hcs, _⟩ | ⟨x, n, c, zs, hcs, _, hl, hm, hz, hx, hcell, hwz⟩
  · simp at hcs
    exact ⟨none, 0, 0, [], hcs, Rd.nil_ _ _, by omega, by omega⟩
  · simp at hcs
    have hn : n ≤ zs.length := by rw [hz]; split <;> omega
    have hb : Tryz.prog.bytesOf 5 = 1 := by kernel_rfl
    rw [hx] at hs
    have hw := (sz_slice hs Tryz.underlying36).1
    rw [hb] at hw
    simp only [lits, List.length_map, List.length_take, List.length_drop, reachBytes] at hw
    refine ⟨_, _, _, (zs.take n).map fun z => UInt8.ofNat z.toNat, hcs, ⟨by simp [u8s]; omega, fun h0 => ?_⟩, hl, by omega⟩
    obtain ⟨b, o, rfl⟩ := addr_spot (hcell 0 (by omega))
    refine ⟨b, o, rfl, fun j u hu => ?_⟩
    have hj : j < n := by
      have := (List.getElem?_eq_some_iff.1 hu).1
      simp [u8s] at this
      omega
    have h1 := hcell j (by omega)
    rw [addr_add] at h1
    rw [h1]
    have hzj : zs[j]? = some zs[j] := List.getElem?_eq_getElem (by omega)
    have h2 : zs.getD j 0 = zs[j] := by simp [List.getD, hzj]
    have h3 := hwz zs[j] (List.getElem_mem _)
    have hb8 : 0 ≤ zs[j] ∧ zs[j] ≤ 255 := by simpa [Lit.wf, IntKind.signed, IntKind.bits, IntKind.min, IntKind.max] using h3
    simp [u8s, hj, hzj] at hu
    rw [h2, ← hu]
    simp
    omega
theorem flat_at {α : Type} {k : Nat} (cf : α → List Value) (hcf : ∀ a, (cf a).length = k) (gs : List α) (i j : Nat) (g : α) (hi : gs[i]? = some g) (hj : j < k) : (gs.flatMap cf)[i * k + j]? = (cf g)[j]? := by
  induction gs generalizing i with
  | nil => simp at hi
  | cons a r ih =>
    rw [List.flatMap_cons]
    cases i with
    | zero =>
      simp at hi
      subst hi
      rw [List.getElem?_append_left (by rw [hcf]; omega)]
      simp
    | succ i =>
      rw [List.getElem?_append_right (by rw [hcf, Nat.succ_mul]; omega), hcf]
      have : (i + 1) * k + j - k = i * k + j := by rw [Nat.succ_mul]; omega
      rw [this]
      exact ih i (by simpa using hi)
theorem flat_len {α : Type} {k : Nat} (cf : α → List Value) (hcf : ∀ a, (cf a).length = k) (gs : List α) : (gs.flatMap cf).length = gs.length * k := by
  induction gs with
  | nil => simp
  | cons a r ih => rw [List.flatMap_cons, List.length_append, ih, hcf, List.length_cons, Nat.succ_mul]; omega
/-- A slice of elements of k cells each: each element opened by its own law. -/
theorem open_row {α : Type} {t e : TypeId} {k bts : Nat} (hu : Tryz.prog.underlying t = some (.slice e)) (hC : Tryz.prog.cellsOf e = k) (hB : Tryz.prog.bytesOf e = bts) (hk : 0 < k) (cf : α → List Value) (hcf : ∀ a, (cf a).length = k) (p : α → Prop)
    (op : ∀ (fuel : Nat) (cs : List Value) (y : DataW H × List MemPlace), DataW.trod enc Tryz.prog w base spare held fuel e cs = some y → Sz Tryz.prog e y.1 → ∃ a, cs = cf a ∧ p a)
    {fuel : Nat} {v : Value} {y : DataW H × List MemPlace} (h : DataW.trod enc Tryz.prog w base spare held fuel t [v] = some y) (hs : Sz Tryz.prog t y.1) :
    ∃ A c gs, v = .slice A (gs : List α).length c ∧ RdN w k A gs.length (gs.flatMap cf) ∧ gs.length * bts ≤ 140737488351232 ∧ (∀ g ∈ gs, p g) ∧ gs.length ≤ c := by
  rcases open_slice hu h with ⟨hcs, _⟩ | ⟨x, n, c, m, fu, D, Pl, hcs, _, hl, hm, hmm, rfl, hi⟩
  · simp at hcs
    exact ⟨none, 0, [], hcs, RdN.nil_ _ _ _, (by simp), (fun l hl => by cases hl), Nat.le_refl _⟩
  · simp at hcs
    rw [hC] at hi
    obtain ⟨z1, z2⟩ := sz_slice hs hu
    rw [hB] at z1
    simp only [List.length_map, List.length_range, reachBytes] at z1
    have hnm : n ≤ m := by rw [hmm]; split <;> omega
    obtain ⟨gs, hl2, hp⟩ := choose_list (α := α) (p := fun i l => (∀ j u, (cf l)[j]? = some u → w.cell? ((x.add (i * k)).add j) = some u) ∧ p l) n fun i hin => by
      obtain ⟨cs, hc, ht⟩ := hi i (by omega)
      obtain ⟨_, hcl, hat⟩ := World.cells?_some hc
      obtain ⟨l, rfl, hw⟩ := op _ _ _ ht (z2 (D i) (by simp; exact ⟨i, hin, rfl⟩))
      exact ⟨l, fun j u hu => by
        have hj : j < k := by have := (List.getElem?_eq_some_iff.1 hu).1; rw [hcf] at this; exact this
        rw [hat j hj]; exact hu, hw⟩
    subst hl2
    refine ⟨some x, c, gs, hcs, ⟨flat_len cf hcf gs, fun h0 => ?_⟩, Nat.le_trans (Nat.mul_le_mul_right _ (by omega)) z1, fun l hl => ?_, by omega⟩
    · have hg0 : gs[0]? = some gs[0] := List.getElem?_eq_getElem (by omega)
      have hc0 : (cf gs[0])[0]? = some ((cf gs[0])[0]'(by rw [hcf]; exact hk)) := List.getElem?_eq_getElem _
      have h1 := (hp 0 gs[0] hg0).1 0 _ hc0
      obtain ⟨b, o, rfl⟩ := addr_spot (x := x) (by rw [Nat.zero_mul] at h1; have : (x.add 0).add 0 = x.add 0 := by simp [Addr.add]
                                                   rw [this] at h1; exact h1)
      refine ⟨b, o, rfl, fun j u hu => ?_⟩
      have hj : j < gs.length * k := by
        have := (List.getElem?_eq_some_iff.1 hu).1
        rw [flat_len cf hcf] at this
        exact this
      have hdm : j / k * k + j % k = j := by rw [Nat.mul_comm]; exact Nat.div_add_mod j k
      have hjk : j / k < gs.length := Nat.div_lt_of_lt_mul (by rw [Nat.mul_comm]; exact hj)
      have hg : gs[j / k]? = some gs[j / k] := List.getElem?_eq_getElem hjk
      have h2 := flat_at cf hcf gs (j / k) (j % k) _ hg (Nat.mod_lt _ hk)
      rw [hdm, hu] at h2
      have h3 := (hp (j / k) _ hg).1 (j % k) u h2.symm
      rw [addr_add, addr_add, Nat.add_assoc, hdm] at h3
      exact h3
    · obtain ⟨i, hi2⟩ := List.mem_iff_getElem?.1 hl
      exact (hp i l hi2).2
theorem open_num {fuel : Nat} {cs : List Value} {y : DataW H × List MemPlace} (h : DataW.trod enc Tryz.prog w base spare held fuel 3 cs = some y) : ∃ x : Int, cs = [.int .i64 x] ∧ -9223372036854775808 ≤ x ∧ x ≤ 9223372036854775807 := by
  obtain ⟨a, e0, _, w0⟩ := DataW.trod_int Tryz.underlying3 h
  simp [Lit.wf, IntKind.min, IntKind.max, IntKind.signed, IntKind.bits] at w0
  exact ⟨a, e0, w0⟩
end
end Go.Proofs.YtjajbbgebblalaaGreatDoor
