/-
  Lists of fields in memory, and the walk of tlv.Encode.
-/
/-
  The walk of the reference's Copy of fields; rows of fields of the call's own.
-/
/-
  The walks of the reference's Alike and Plain.
-/
import Derived.Test.YtdoaniimfhpjhaaDoorFldW
import Derived.Deep.MidRow
namespace Go.Proofs.YtdoaniimfhpjhaaDoor
open Go.RowKit
set_option linter.unusedVariables false
set_option linter.unusedSimpArgs false
abbrev Held := Fld × Option Addr × Nat
def fsCells (hs : List Held) : List Value := hs.flatMap fun h => (fcells h.1 h.2.1 h.2.2).toList
/-- A slice of fields that reads as fs. -/
def FsRd (w : World) (A : Option Addr) (n : Nat) (fs : List Fld) : Prop :=
  ∃ hs : List Held, hs.map (·.1) = fs ∧ RdN w 4 A n (fsCells hs) ∧ ∀ h ∈ hs, Rd w h.2.1 h.1.bytes.length (u8s h.1.bytes)
theorem fsCells_len (hs : List Held) : (fsCells hs).length = hs.length * 4 := by
  induction hs with
  | nil => rfl
  | cons h r ih => simp only [fsCells, List.flatMap_cons, List.length_append] at ih ⊢; rw [ih]; simp [fcells]; omega
theorem fsCells_app (hs gs : List Held) : fsCells (hs ++ gs) = fsCells hs ++ fsCells gs := by simp [fsCells]
theorem fsCells_at (hs : List Held) (k j : Nat) (h : Held) (hk : hs[k]? = some h) (hj : j < 4) : (fsCells hs)[k * 4 + j]? = (fcells h.1 h.2.1 h.2.2).toList[j]? := by
  induction hs generalizing k with
  | nil => simp at hk
  | cons g r ih =>
    have e : fsCells (g :: r) = (fcells g.1 g.2.1 g.2.2).toList ++ fsCells r := by simp [fsCells]
    rw [e]
    cases k with
    | zero =>
      simp at hk
      subst hk
      rw [List.getElem?_append_left (by simp [fcells]; omega)]
      simp
    | succ k =>
      rw [List.getElem?_append_right (by simp [fcells]; omega)]
      have : (k + 1) * 4 + j - (fcells g.1 g.2.1 g.2.2).toList.length = k * 4 + j := by simp [fcells]; omega
      rw [this]
      exact ih k (by simpa using hk)
theorem FsRd.len {w : World} {A : Option Addr} {n : Nat} {fs : List Fld} (h : FsRd w A n fs) : fs.length = n := by
  obtain ⟨hs, rfl, h1, _⟩ := h
  have := h1.1
  rw [fsCells_len] at this
  simp; omega
theorem FsRd.ext {w w' : World} {A : Option Addr} {n : Nat} {fs : List Fld} (h : FsRd w A n fs) (hx : Ext w w') : FsRd w' A n fs := by
  obtain ⟨hs, h0, h1, h2⟩ := h
  exact ⟨hs, h0, h1.ext hx, fun g hg => (h2 g hg).ext hx⟩
theorem fs_at {w : World} {A : Option Addr} {n k : Nat} {fs : List Fld} (h : FsRd w A n fs) (hk : k < n) :
    ∃ b o f Af cf, fs[k]? = some f ∧ A = some ⟨b, o, none⟩ ∧ w.rangeAt b (o + k * 4) (fcells f Af cf).toList ∧ Rd w Af f.bytes.length (u8s f.bytes) := by
  have hl := h.len
  obtain ⟨hs, rfl, h1, h2⟩ := h
  obtain ⟨b, o, e, hc⟩ := h1.2 (by omega)
  simp at hl
  have hg : hs[k]? = some hs[k] := List.getElem?_eq_getElem (by omega)
  refine ⟨b, o, hs[k].1, hs[k].2.1, hs[k].2.2, by simp [hg], e, fun j v hv => ?_, h2 _ (List.getElem_mem _)⟩
  have hj : j < 4 := by
    have := (List.getElem?_eq_some_iff.1 hv).1
    simpa [fcells] using this
  rw [Nat.add_assoc]
  exact hc _ _ (by rw [fsCells_at hs k j _ hg hj]; exact hv)
section
variable {w : World}
end
def TEncR (W : World) (fs : List Fld) (c4 c5 c11 : Value) (wr : World) : Prop :=
  ∃ (k : Nat) (A : Option Addr) (c : Nat), c11 = .int .i64 k ∧ k ≤ fs.length ∧ c5 = .int .i64 (lastT (fs.take k)) ∧ c4 = .slice A (encB (fs.take k)).length c ∧ faults 0 (fs.take k) = 0 ∧
    Ext W wr ∧ wr.ownsRow W.heap.size 5 1 (.slice A (encB (fs.take k)).length c) (encB (fs.take k)).length (u8s (encB (fs.take k)))
/-- What Encode answers. -/
def EncPost (W : World) (fs : List Fld) (e : Ending) (w' : World) : Prop :=
  ∃ A c, e = .returned (.tuple #[.slice A (encR fs).length c, .int .i64 (encE fs : Nat)]) ∧ Ext W w' ∧ w'.ownsRow W.heap.size 5 1 (.slice A (encR fs).length c) (encR fs).length (u8s (encR fs))
theorem enc_bad {fs : List Fld} {e : Nat} (h : faults 0 fs = e) (he : e ≠ 0) : encE fs = e ∧ encR fs = [] := by
  have h1 : encE fs = e := by unfold encE; rw [h, if_pos he]
  exact ⟨h1, by unfold encR; rw [h1, if_neg he]⟩
end Go.Proofs.YtdoaniimfhpjhaaDoor

namespace Go.Proofs.YtdoaniimfhpjhaaDoor
open Go.RowKit
set_option linter.unusedVariables false
set_option linter.unusedSimpArgs false
theorem fsCells_one (hs : List Held) : ∀ u ∈ fsCells hs, u.oneCell' = true := fun u hu => by
  simp only [fsCells, List.mem_flatMap] at hu
  obtain ⟨h, _, hu⟩ := hu
  exact fcells_one _ _ _ u hu
theorem own_ne2 {w : World} {base base2 : Nat} {e e2 : TypeId} {s s2 : Nat} {v v2 : Value} {n n2 : Nat} {xs ys : List Value} (h : w.ownsRow base e s v n xs) (h2 : w.ownsRow base2 e2 s2 v2 n2 ys) (he : e ≠ e2) : v.ownBlock = none ∨ v.ownBlock ≠ v2.ownBlock :=
  own_ne (own_base h (Nat.min_le_left base base2)) (own_base h2 (Nat.min_le_right base base2)) he
section
variable {w : World}
end
end Go.Proofs.YtdoaniimfhpjhaaDoor

namespace Go.Proofs.YtdoaniimfhpjhaaDoor
open Go.RowKit
set_option linter.unusedVariables false
set_option linter.unusedSimpArgs false
theorem quiet_add {P : Program} {f : FuncId} {args : Array Value} {w : World} {a n : Nat} {v : Value}
    (h : Calls P f args (w.drewN (a + n)) fun e w' => e = .returned v ∧ ∃ m, w' = (w.drewN (a + n)).drewN m) :
    Calls P f args (w.drewN (a + n)) fun e w'' => e = .returned v ∧ ∃ m, w'' = w.drewN (a + m) :=
  h.mono fun _ _ ⟨he, m, hm⟩ => ⟨he, n + m, by rw [hm, World.drewN_drewN, Nat.add_assoc]⟩
def AlikeR (W : World) (n : Nat) (i : Value) (wr : World) : Prop := ∃ k : Nat, k ≤ n ∧ i = .int .i64 k ∧ Ext W wr
theorem strip_eq {f g : Fld} (h : strip f = strip g) : f.tag = g.tag ∧ f.text = g.text ∧ (f.text = true → f.bytes = g.bytes) ∧ (f.text = false → f.num = g.num) := by
  obtain ⟨t1, x1, n1, b1⟩ := f
  obtain ⟨t2, x2, n2, b2⟩ := g
  simp only [strip, Fld.mk.injEq] at h
  obtain ⟨h1, h2, h3, h4⟩ := h
  subst h1 h2
  cases x1 <;> simp_all
end Go.Proofs.YtdoaniimfhpjhaaDoor
