/-
  Calls as values (daybookref10.Op) in memory.
-/
/-
  Arguments opened, chapter 10: lists of bytes, of ints, files, calls.
-/
import Derived.Test.YtdoaniimfhpjhaaDoorFsU
import Derived.Test.YtdoaniimfhpjhaaDoorOpenG
namespace Go.Proofs.YtdoaniimfhpjhaaDoor
open Go.RowKit
set_option linter.unusedVariables false
set_option linter.unusedSimpArgs false
structure Op10 where
  k : Int
  name : ByteArray
  tgt : ByteArray
  b : List UInt8
  n : Int
  m : Int
  keep : List Int
abbrev HO := Op10 × (Option Addr × Nat) × (Option Addr × Nat)
def opcells (h : HO) : Array Value := #[.int .i64 h.1.k, .string h.1.name, .string h.1.tgt, .slice h.2.1.1 h.1.b.length h.2.1.2, .int .i64 h.1.n, .int .i64 h.1.m, .slice h.2.2.1 h.1.keep.length h.2.2.2]
def OpOk (w : World) (h : HO) : Prop := (Rd w h.2.1.1 h.1.b.length (u8s h.1.b) ∧ h.1.b.length ≤ 140737488351232) ∧ (Rd w h.2.2.1 h.1.keep.length (ints h.1.keep) ∧ h.1.keep.length * 8 ≤ 140737488351232 ∧ ∀ x ∈ h.1.keep, IsI64 x) ∧ IsI64 h.1.k ∧ IsI64 h.1.n ∧ IsI64 h.1.m
theorem OpOk.ext {w w' : World} {h : HO} (ho : OpOk w h) (hx : Ext w w') : OpOk w' h := ⟨⟨ho.1.1.ext hx, ho.1.2⟩, ⟨ho.2.1.1.ext hx, ho.2.1.2⟩, ho.2.2⟩
def OpsRd (w : World) (A : Option Addr) (hs : List HO) : Prop := RdN w 7 A hs.length (hs.flatMap fun h => (opcells h).toList) ∧ ∀ h ∈ hs, OpOk w h
theorem OpsRd.ext {w w' : World} {A : Option Addr} {hs : List HO} (h : OpsRd w A hs) (hx : Ext w w') : OpsRd w' A hs := ⟨h.1.ext hx, fun g hg => (h.2 g hg).ext hx⟩
theorem op_at {w : World} {A : Option Addr} {hs : List HO} (h : OpsRd w A hs) {k : Nat} (hk : k < hs.length) :
    ∃ b o x, A = some ⟨b, o, none⟩ ∧ hs[k]? = some x ∧ w.rangeAt b (o + k * 7) (opcells x).toList ∧ OpOk w x := by
  obtain ⟨b, o, e, hc⟩ := h.1.2 (by omega)
  have hg : hs[k]? = some hs[k] := List.getElem?_eq_getElem hk
  refine ⟨b, o, hs[k], e, hg, fun j v hv => ?_, h.2 _ (List.getElem_mem _)⟩
  have hj : j < 7 := by
    have := (List.getElem?_eq_some_iff.1 hv).1
    simpa [opcells] using this
  rw [Nat.add_assoc]
  exact hc _ _ (by rw [flat_at (k := 7) _ (fun _ => rfl) hs k j _ hg hj]; exact hv)
theorem opcells_one (h : HO) : ∀ u ∈ (opcells h).toList, u.oneCell' = true := fun u hu => by
  simp only [opcells, List.mem_cons, List.not_mem_nil, or_false] at hu
  rcases hu with rfl | rfl | rfl | rfl | rfl | rfl | rfl <;> rfl
theorem opcells_size (h : HO) : (opcells h).size = 7 := rfl
def noOp : HO := (⟨0, ⟨#[]⟩, ⟨#[]⟩, [], 0, 0, []⟩, (none, 0), (none, 0))
section
variable {w : World}
end
end Go.Proofs.YtdoaniimfhpjhaaDoor

namespace Go.Proofs.YtdoaniimfhpjhaaDoor
open Go.RowKit
set_option linter.unusedVariables false
set_option linter.unusedSimpArgs false
open Go.ChangeShapes Go.WideShapes Go.Deep
section
variable {H : Type} {enc : TypeId × Value → H} {w : World} {base : Nat} {spare : Nat → Bool} {held : Bool}
theorem i64_of {x : Int} (h : (Lit.int .i64 x).wf = true) : IsI64 x := by
  simp [Lit.wf, IntKind.min, IntKind.max, IntKind.signed, IntKind.bits] at h
  exact h
theorem flat_one {α β : Type} (f : α → β) (gs : List α) : gs.flatMap (fun a => [f a]) = gs.map f := by
  induction gs with
  | nil => rfl
  | cons a r ih => rw [List.flatMap_cons, ih]; rfl
theorem single {fuel : Nat} {t e : TypeId} {cs : List Value} {y : DataW H × List MemPlace} (hu : Tryd.prog.underlying t = some (.slice e)) (h : DataW.trod enc Tryd.prog w base spare held fuel t cs = some y) : ∃ v, cs = [v] := by
  rcases DataW.trod_slice hu h with ⟨rfl, _⟩ | ⟨a, len, cap, _, _, _, _, rfl, _⟩
  · exact ⟨_, rfl⟩
  · exact ⟨_, rfl⟩
theorem open_intl {fuel : Nat} {cs : List Value} {y : DataW H × List MemPlace} (h : DataW.trod enc Tryd.prog w base spare held fuel 25 cs = some y) (hs : Sz Tryd.prog 25 y.1) :
    ∃ g : HI, cs = [.slice g.2.1 g.1.length g.2.2] ∧ Rd w g.2.1 g.1.length (ints g.1) ∧ g.1.length * 8 ≤ 140737488351232 ∧ ∀ x ∈ g.1, IsI64 x := by
  obtain ⟨v, rfl⟩ := single Tryd.underlying25 h
  obtain ⟨A, c, gs, e, hr, hb, hp, _⟩ := open_row (k := 1) (bts := 8) Tryd.underlying25 (by kernel_rfl) (by kernel_rfl) (by decide) (fun x : Int => [Value.int .i64 x]) (fun _ => rfl) IsI64 (fun fuel cs y h _ => by
    obtain ⟨x, e, h1⟩ := open_num h
    exact ⟨x, e, h1⟩) h hs
  rw [flat_one] at hr
  exact ⟨(gs, A, c), by rw [e], hr.to1, hb, hp⟩
theorem open_u8l {fuel : Nat} {cs : List Value} {y : DataW H × List MemPlace} (h : DataW.trod enc Tryd.prog w base spare held fuel 40 cs = some y) (hs : Sz Tryd.prog 40 y.1) :
    ∃ g : HB, cs = [.slice g.2.1 g.1.length g.2.2] ∧ Rd w g.2.1 g.1.length (u8s g.1) ∧ g.1.length ≤ 140737488351232 := by
  obtain ⟨v, rfl⟩ := single Tryd.underlying40 h
  obtain ⟨A, n, c, l, rfl, hr, _, hn⟩ := open_bytes h hs
  have hl : l.length = n := by have := hr.1; rw [u8s_len] at this; exact this
  subst hl
  exact ⟨(l, A, c), rfl, hr, hn⟩
end
end Go.Proofs.YtdoaniimfhpjhaaDoor
