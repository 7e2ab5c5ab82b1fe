/-
  Arguments opened: sizes at every depth, bytes, every type.
-/
import Derived.Test.YtjajbbgebblalaaGreatDoorBytesW
import Derived.ProofKit
import Derived.OpenShut
import Derived.SizedLaws
import Derived.Deep.Slices
import Derived.Deep.Fields
import Derived.ChangeSame
namespace Go.Proofs.YtjajbbgebblalaaGreatDoor
open Go.RowKit
set_option linter.unusedVariables false
set_option linter.unusedSimpArgs false
open Go.ChangeShapes Go.WideShapes Go.Deep
section
variable {H : Type} {P : Program}
/-- At every depth of the datum nothing is larger than the reach. -/
def Sz (P : Program) (t : TypeId) (d : DataW H) : Prop := ∀ n ∈ d.weights P t, n ≤ reachBytes
theorem sz_of {ts : List TypeId} {ds : List (DataW H)} (h : (DataW.weightsEach P ts ds).all (· ≤ reachBytes) = true) {j : Nat} {t : TypeId} {d : DataW H} (ht : ts[j]? = some t) (hd : ds[j]? = some d) : Sz P t d := fun n hn => by
  simpa using List.all_eq_true.1 h n (DataW.weights_mem_each ht hd n hn)
theorem all_mem {e : TypeId} {l : List (DataW H)} {d : DataW H} (hd : d ∈ l) : ∀ n ∈ d.weights P e, n ∈ DataW.weightsAll P e l := by
  induction l with
  | nil => cases hd
  | cons x r ih =>
    intro n hn
    rw [DataW.weightsAll, List.mem_append]
    rcases List.mem_cons.1 hd with rfl | hd
    · exact .inl hn
    · exact .inr (ih hd n hn)
theorem sz_slice {t e : TypeId} {el sp : List (DataW H)} (h : Sz P t (.slice el sp)) (hu : P.underlying t = some (.slice e)) : (el.length + sp.length) * P.bytesOf e ≤ reachBytes ∧ ∀ d ∈ el, Sz P e d := by
  have hw : (DataW.slice el sp : DataW H).weights P t = (el.length + sp.length) * P.bytesOf e :: (DataW.weightsAll P e el ++ DataW.weightsAll P e sp) := by rw [DataW.weights, hu]
  refine ⟨h _ (by rw [hw]; exact List.mem_cons_self ..), fun d hd n hn => h n ?_⟩
  rw [hw]
  exact List.mem_cons_of_mem _ (List.mem_append_left _ (all_mem hd n hn))
end
theorem addr_add (b o j : Nat) : (⟨b, o, none⟩ : Addr).add j = ⟨b, o + j, none⟩ := by by_cases h : j = 0 <;> simp [Addr.add, h]
theorem addr_spot {w : World} {x : Addr} {v : Value} (h : w.cell? (x.add 0) = some v) : ∃ b o, x = ⟨b, o, none⟩ := by
  obtain ⟨b, o, sp⟩ := x
  have hsp : sp = none := by simpa [Addr.add] using World.cell?_spot h
  subst hsp
  exact ⟨b, o, rfl⟩
section
variable {H : Type} {enc : TypeId × Value → H} {w : World} {base : Nat} {spare : Nat → Bool} {held : Bool}
theorem open_bytes {fuel : Nat} {v : Value} {y : DataW H × List MemPlace} (h : DataW.trod enc Tryz.prog w base spare held fuel 36 [v] = some y) (hs : Sz Tryz.prog 36 y.1) :
    ∃ A n c l, v = .slice A n c ∧ Rd w A n (u8s l) ∧ n ≤ c ∧ n ≤ 140737488351232 := by
  rcases open_ints Tryz.underlying36 Tryz.underlying5 (by kernel_rfl) h with ⟨hcs, _⟩ | ⟨x, n, c, zs, hcs, _, hl, hm, hz, hx, hcell, hwz⟩
  · simp at hcs
    exact ⟨none, 0, 0, [], hcs, Rd.nil_ _ _, by omega, by omega⟩
  · simp at hcs
    have hn : n ≤ zs.length := by rw [hz]; split <;> omega
    have hb : Tryz.prog.bytesOf 5 = 1 := by kernel_rfl
    rw [hx] at hs
    have hw := (sz_slice hs Tryz.underlying36).1
    rw [hb] at hw
    simp only [lits, List.length_map, List.length_take, List.length_drop, reachBytes] at hw
    refine ⟨_, _, _, (zs.take n).map fun z => UInt8.ofNat z.toNat, hcs, ⟨by simp [u8s]; omega, fun h0 => ?_⟩, hl, by omega⟩
    obtain ⟨b, o, rfl⟩ := addr_spot (hcell 0 (by omega))
    refine ⟨b, o, rfl, fun j u hu => ?_⟩
    have hj : j < n := by
      have := (List.getElem?_eq_some_iff.1 hu).1
      simp [u8s] at this
      omega
    have h1 := hcell j (by omega)
    rw [addr_add] at h1
    rw [h1]
    have hzj : zs[j]? = some zs[j] := List.getElem?_eq_getElem (by omega)
    have h2 : zs.getD j 0 = zs[j] := by simp [List.getD, hzj]
    have h3 := hwz zs[j] (List.getElem_mem _)
    have hb8 : 0 ≤ zs[j] ∧ zs[j] ≤ 255 := by simpa [Lit.wf, IntKind.signed, IntKind.bits, IntKind.min, IntKind.max] using h3
    simp [u8s, hj, hzj] at hu
    rw [h2, ← hu]
    simp
    omega
end
end Go.Proofs.YtjajbbgebblalaaGreatDoor
