/-
  The walk of tlv.Decode.
-/
import Derived.Test.YtipdilmlodakoaaCurG
import Derived.Defers
import Derived.Recover
namespace Go.Proofs.Ytipdilmlodakoaa
open Go.RowKit
set_option linter.unusedVariables false
set_option linter.unusedSimpArgs false
set_option maxRecDepth 100000 in
set_option maxHeartbeats 1000000 in
theorem dcatch_panic (p q : Addr) (vp vq : Value) (x : Int) (older : List PanicEntry) (w : World) (hp : w.cell? p = some vp) (hq : w.cell? q = some vq) (fp : w.frozen? p = false) (fq : w.frozen? q = false) (hpq : ¬ p = q) :
    CallsD Try.prog 68 #[.pointer (some p), .pointer (some q)] (.panicking ({ v := .iface 31 (.int .i64 x), recovered := false } :: older)) w fun e u' w' =>
      e = .returned (.tuple #[]) ∧ u' = .panicking ({ v := .iface 31 (.int .i64 x), recovered := true } :: older) ∧ w' = (w.setCell p (.slice none 0 0)).setCell q (.int .i64 x) := by
  have hq2 : (w.setCell p (.slice none 0 0)).cell? q = some vq := by rw [World.cell?_setCell_other _ _ _ _ hpq]; exact hq
  have hta : ∀ (x : Int) (w : World), (Instr.typeAssert (.iface 31 (.int .i64 x)) 20 31 true).run Try.prog w = .ok (.tuple #[.int .i64 x, .bool true]) w := fun _ _ => by kernel_rfl
  refine callsD_of_wpS Try.func68 rfl fun c₀ cs hu => ?_
  apply wpS_seq
  apply wpS_region
  simp [wpOpsS, go_sem, recoverD, hu, Try.ntmps68, Exit.thenS]
  refine wpS_of_wp ?_
  change Code.wp _ _ _ ⟨#[.pointer (some p), .pointer (some q), .iface 31 (.int .i64 x), undef, undef, .iface 31 (.int .i64 x), undef, undef, undef, undef, undef, undef, undef, undef, undef, undef, undef], []⟩ w
  go_wp2_with fail
  simp [bodyPostS, results, Try.results68]
set_option maxRecDepth 100000 in
set_option maxHeartbeats 1000000 in
theorem dcatch_idle (p q : Addr) (w : World) :
    CallsD Try.prog 68 #[.pointer (some p), .pointer (some q)] .returning w fun e u' w' => e = .returned (.tuple #[]) ∧ u' = .returning ∧ w' = w := by
  refine callsD_of_wpS Try.func68 rfl fun c₀ cs hu => ?_
  apply wpS_seq
  apply wpS_region
  simp [wpOpsS, go_sem, recoverD, hu, Try.ntmps68, Exit.thenS]
  refine wpS_of_wp ?_
  change Code.wp _ _ _ ⟨#[.pointer (some p), .pointer (some q), .nilIface, undef, undef, .nilIface, undef, undef, undef, undef, undef, undef, undef, undef, undef, undef, undef], []⟩ w
  go_wp2_with fail
  cases c₀
  simp_all [bodyPostS, results, Try.results68]
theorem own_off {w : World} {base g : Nat} {e t : TypeId} {s n : Nat} {v : Value} {xs : List Value} {cs : Array Value} (h : w.ownsRow base e s v n xs) (hb : Blk w g t cs) (ht : t ≠ e) : v.ownBlock = none ∨ v.ownBlock ≠ some g := by
  rcases h.2 with ⟨rfl, _⟩ | ⟨g2, cap, cur, rfl, _, hg2, _⟩
  · exact .inl rfl
  · refine .inr fun hc => ?_
    simp only [Value.ownBlock, Option.some.injEq] at hc
    subst hc
    unfold Blk at hb
    rw [hb] at hg2
    simp at hg2
    exact ht hg2.2
theorem own_setOff {w : World} {base g i : Nat} {e t : TypeId} {s n : Nat} {v u : Value} {xs : List Value} {cs : Array Value} (h : w.ownsRow base e s v n xs) (hb : Blk w g t cs) (ht : t ≠ e) : (w.setCell ⟨g, i, none⟩ u).ownsRow base e s v n xs :=
  own_heap h fun k hk => Below.heap_setCell w ⟨g, i, none⟩ u k (fun hc => by
    rcases own_off h hb ht with h1 | h1
    · rw [h1] at hk; cases hk
    · exact h1 (by rw [hk, hc]))
theorem OwnFs.setOff {w : World} {base g i : Nat} {t : TypeId} {A : Option Addr} {n c : Nat} {hs : List Held} {u : Value} {cs : Array Value} (h : OwnFs w base A n c hs) (hb : Blk w g t cs) (h1 : t ≠ 54) (h2 : t ≠ 5) : OwnFs (w.setCell ⟨g, i, none⟩ u) base A n c hs :=
  ⟨own_setOff h.1 hb h1, fun f hf => own_setOff (h.2 f hf) hb h2⟩
theorem OwnFs.grownOff {w w' : World} {base g : Nat} {t : TypeId} {A : Option Addr} {n c : Nat} {hs : List Held} {cs : Array Value} (h : OwnFs w base A n c hs) (hg : w.grownBy w' (some g)) (hb : Blk w g t cs) (h1 : t ≠ 54) (h2 : t ≠ 5) : OwnFs w' base A n c hs :=
  ⟨h.1.kept hg (own_off h.1 hb h1), fun f hf => (h.2 f hf).kept hg (own_off (h.2 f hf) hb h2)⟩
theorem OwnFs.ext {w w' : World} {base : Nat} {A : Option Addr} {n c : Nat} {hs : List Held} (h : OwnFs w base A n c hs) (hx : Ext w w') : OwnFs w' base A n c hs := ⟨own_ext hx h.1, fun f hf => own_ext hx (h.2 f hf)⟩
/-- What is still to come, behind what was read. -/
def Goes (l : List UInt8) (pre : List Fld) (last : Int) (at_ : Nat) : Prop :=
  decA l 0 0 = if (decA l last at_).2.2 ≠ 0 then decA l last at_ else (pre ++ (decA l last at_).1, 0, 0)
theorem goes_start (l : List UInt8) : Goes l [] 0 0 := by
  unfold Goes
  have h := decA_form l 0 0
  generalize decA l 0 0 = y at h ⊢
  obtain ⟨a, b, e⟩ := y
  by_cases he : e = 0
  · subst he; simp at h ⊢; exact h
  · simp [he]
theorem goes_step {l : List UInt8} {pre : List Fld} {last : Int} {at_ m : Nat} {f : Fld} (h : Goes l pre last at_) (hl : 0 ≤ last) (hat : at_ < l.length) (hn : next (l.drop at_) last = (f, m, 0)) : Goes l (pre ++ [f]) f.tag (at_ + m) := by
  unfold Goes at h ⊢
  rw [h, decA_ok hl hat hn]
  by_cases he : (decA l f.tag (at_ + m)).2.2 = 0
  · simp [he]
  · have hf := (decA_form l f.tag (at_ + m)).1 he
    simp only [ne_eq, he, not_false_eq_true, if_true]
    rw [← hf]
theorem goes_bad {l : List UInt8} {pre : List Fld} {last : Int} {at_ E : Nat} (h : Goes l pre last at_) (hat : at_ < l.length) (hn : (next (l.drop at_) last).2.2 = E) (hE : E ≠ 0) : decA l 0 0 = ([], at_, E) := by
  unfold Goes at h
  rw [h, decA_bad hat (by rw [hn]; exact hE), hn]
  simp [hE]
theorem goes_end {l : List UInt8} {pre : List Fld} {last : Int} {at_ : Nat} (h : Goes l pre last at_) (hat : l.length ≤ at_) : decA l 0 0 = (pre, 0, 0) := by
  unfold Goes at h
  rw [h, decA_end hat]
  simp
def DecPost (W : World) (l : List UInt8) (e : Ending) (w' : World) : Prop :=
  ∃ A c hs, e = .returned (.tuple #[.slice A (dec l).1.length c, .int .i64 ((dec l).2.1 : Nat), .int .i64 ((dec l).2.2 : Nat)]) ∧ Ext W w' ∧ OwnFs w' W.heap.size A (dec l).1.length c hs ∧ hs.map (·.1) = (dec l).1
end Go.Proofs.Ytipdilmlodakoaa
