/-
  The walks of the cursor's num.
-/
/-
  The walks of the cursor's field.
-/
/-
  The walk of the cursor's field, where the field is right.
-/
/-
  The walk of tlv.Decode.
-/
/-
  The walk of tlv.Decode.
-/
import Derived.Test.YtdoaniimfhpjhaaDoorVarD
import Derived.Test.YtdoaniimfhpjhaaDoorFldW
import Derived.Test.YtdoaniimfhpjhaaDoorFsW
import Derived.Test.YtdoaniimfhpjhaaDoorPanW
import Derived.Deep.RegionHeld3
import Derived.Defers
import Derived.Recover
import Derived.Deep.LoopGhost
namespace Go.Proofs.YtdoaniimfhpjhaaDoor
open Go.RowKit
set_option linter.unusedVariables false
set_option linter.unusedSimpArgs false
def curA (A : Option Addr) (n c at_ : Nat) : Array Value := #[.slice A n c, .int .i64 (at_ : Nat)]
theorem quiet_dec {A : Option Addr} {n c : Nat} {l : List UInt8} {w : World} {k : Nat} (h : ∀ W : World, Rd W A n (u8s l) → Calls Tryd.prog 45 #[.slice A n c] W fun e w' => e = DecT (vdec l) ∧ W = w') (hr : Rd w A n (u8s l)) :
    Calls Tryd.prog 45 #[.slice A n c] (w.drewN k) fun e w'' => e = DecT (vdec l) ∧ ∃ m, w'' = w.drewN m :=
  (h (w.drewN k) (drawn_keep hr)).mono fun _ _ ⟨he, hm⟩ => ⟨he, k, hm.symm⟩
def NumBad (w : World) (g E : Nat) (e : Ending) (w' : World) : Prop := e = ErrPanic E ∧ w.grownBy w' (some g)
end Go.Proofs.YtdoaniimfhpjhaaDoor

namespace Go.Proofs.YtdoaniimfhpjhaaDoor
open Go.RowKit
set_option linter.unusedVariables false
set_option linter.unusedSimpArgs false
theorem vdec_eta (l : List UInt8) : vdec l = ((vdec l).1, (vdec l).2.1, (vdec l).2.2) := rfl
/-- The field that is being read. -/
def halfA (T : Nat) (p : Bool) (u : Int) (A : Option Addr) (m c : Nat) : Array Value := #[.int .i64 (T : Nat), .bool p, .int .u64 u, .slice A m c]
end Go.Proofs.YtdoaniimfhpjhaaDoor

namespace Go.Proofs.YtdoaniimfhpjhaaDoor
open Go.RowKit
set_option linter.unusedVariables false
set_option linter.unusedSimpArgs false
theorem half_one (T : Nat) (p : Bool) (u : Int) (A : Option Addr) (m c : Nat) : ∀ v ∈ (halfA T p u A m c).toList, v.oneCell' = true := by
  intro v hv; simp [halfA] at hv; rcases hv with rfl | rfl | rfl | rfl <;> rfl
end Go.Proofs.YtdoaniimfhpjhaaDoor

namespace Go.Proofs.YtdoaniimfhpjhaaDoor
open Go.RowKit
set_option linter.unusedVariables false
set_option linter.unusedSimpArgs false
theorem own_offC {w : World} {base g : Nat} {e t : TypeId} {s n : Nat} {v : Value} {xs : List Value} {cs : Array Value} (h : w.ownsRow base e s v n xs) (hb : Blk w g t cs) (ht : t ≠ e) : v.ownBlock = none ∨ v.ownBlock ≠ some g := by
  rcases h.2 with ⟨rfl, _⟩ | ⟨g2, cap, cur, rfl, _, hg2, _⟩
  · exact .inl rfl
  · refine .inr fun hc => ?_
    simp only [Value.ownBlock, Option.some.injEq] at hc
    subst hc
    unfold Blk at hb
    rw [hb] at hg2
    simp at hg2
    exact ht hg2.2
theorem own_setOff {w : World} {base g i : Nat} {e t : TypeId} {s n : Nat} {v u : Value} {xs : List Value} {cs : Array Value} (h : w.ownsRow base e s v n xs) (hb : Blk w g t cs) (ht : t ≠ e) : (w.setCell ⟨g, i, none⟩ u).ownsRow base e s v n xs :=
  own_heap h fun k hk => Below.heap_setCell w ⟨g, i, none⟩ u k (fun hc => by
    rcases own_offC h hb ht with h1 | h1
    · rw [h1] at hk; cases hk
    · exact h1 (by rw [hk, hc]))
/-- What is still to come, behind what was read. -/
def Goes (l : List UInt8) (pre : List Fld) (last : Int) (at_ : Nat) : Prop :=
  decA l 0 0 = if (decA l last at_).2.2 ≠ 0 then decA l last at_ else (pre ++ (decA l last at_).1, 0, 0)
theorem goes_start (l : List UInt8) : Goes l [] 0 0 := by
  unfold Goes
  have h := decA_form l 0 0
  generalize decA l 0 0 = y at h ⊢
  obtain ⟨a, b, e⟩ := y
  by_cases he : e = 0
  · subst he; simp at h ⊢; exact h
  · simp [he]
theorem goes_step {l : List UInt8} {pre : List Fld} {last : Int} {at_ m : Nat} {f : Fld} (h : Goes l pre last at_) (hl : 0 ≤ last) (hat : at_ < l.length) (hn : next (l.drop at_) last = (f, m, 0)) : Goes l (pre ++ [f]) f.tag (at_ + m) := by
  unfold Goes at h ⊢
  rw [h, decA_ok hl hat hn]
  by_cases he : (decA l f.tag (at_ + m)).2.2 = 0
  · simp [he]
  · have hf := (decA_form l f.tag (at_ + m)).1 he
    simp only [ne_eq, he, not_false_eq_true, if_true]
    rw [← hf]
theorem goes_bad {l : List UInt8} {pre : List Fld} {last : Int} {at_ E : Nat} (h : Goes l pre last at_) (hat : at_ < l.length) (hn : (next (l.drop at_) last).2.2 = E) (hE : E ≠ 0) : decA l 0 0 = ([], at_, E) := by
  unfold Goes at h
  rw [h, decA_bad hat (by rw [hn]; exact hE), hn]
  simp [hE]
theorem goes_end {l : List UInt8} {pre : List Fld} {last : Int} {at_ : Nat} (h : Goes l pre last at_) (hat : l.length ≤ at_) : decA l 0 0 = (pre, 0, 0) := by
  unfold Goes at h
  rw [h, decA_end hat]
  simp
end Go.Proofs.YtdoaniimfhpjhaaDoor

namespace Go.Proofs.YtdoaniimfhpjhaaDoor
open Go.RowKit
set_option linter.unusedVariables false
set_option linter.unusedSimpArgs false
end Go.Proofs.YtdoaniimfhpjhaaDoor
