/-
  A reader in memory: a map from tags to fields. What is looked up, stored, struck out and counted.
-/
import Derived.Test.YtipdilmlodakoaaGreatTurnB
import Derived.Maps.OwnSet
import Derived.Maps.RangeWalk
namespace Go.Proofs.YtipdilmlodakoaaGreat
open Go.RowKit
set_option linter.unusedVariables false
set_option linter.unusedSimpArgs false
open Go.Maps
theorem Turn.map {F : List Nat} {a b : World} {P : Program} {H : Type} {k : TypeId} {R : Value → Option (DataW H × List MemPlace)} {m n : Nat} {D : DataW H} (h : Turn F a b) (ho : a.ownsMap P k R m n D) (hn : m ∉ F) : b.ownsMap P k R m n D := by
  have hlt := ho.lt
  obtain ⟨es, clock, hb, F', hs, hD⟩ := ho
  exact ⟨es, clock, (h.block m hlt hn).trans hb, F', hs, hD⟩
/-- How an element reads: as itself. -/
def tokR (v : Value) : Option (DataW Value × List MemPlace) := some (.held v, [])
def OwnM (w : World) (b : Nat) (D : DataW Value) : Prop := ∃ n, n ≤ 4096 ∧ w.ownsMap Tryz.prog 3 tokR b n D
def tgLit (t : Int) : Lit := .int .i64 t
def IsI (t : Int) : Prop := -9223372036854775808 ≤ t ∧ t ≤ 9223372036854775807
theorem key_int (t : Int) (h : IsI t) : keyOf Tryz.prog 3 (.int .i64 t) = some (tgLit t) := Maps.keyOf_int_mk Tryz.underlying3 (by unfold IsI at h; simp [Lit.wf, IntKind.min, IntKind.max, IntKind.signed, IntKind.bits]; omega)
theorem key_law : Keyed Tryz.prog 3 := int_keyed Tryz.underlying3
theorem tgLit_inj {a b : Int} (h : tgLit a = tgLit b) : a = b := by unfold tgLit at h; injection h
theorem isKey (t : Int) : WideAt.IsKeyLit (tgLit t) := by unfold tgLit; trivial
def fldV (h : Held) : Value := .agg (fcells h.1 h.2.1 h.2.2)
/-- The map holds just the fields of l, each by its tag. -/
def MapL (D : DataW Value) (l : List Held) : Prop :=
  Tidy D ∧ Maps.size D = l.length ∧ (l.map (·.1.tag)).Nodup ∧ (∀ t, Maps.has D (tgLit t) = l.any fun p => decide (p.1.tag = t)) ∧ ∀ h ∈ l, ∀ z, D.atKey (tgLit h.1.tag) z = .held (fldV h)
theorem map_nil : MapL (.map []) [] := ⟨tidy_empty, rfl, List.nodup_nil, fun _ => rfl, fun _ h => by cases h⟩
theorem map_put {D : DataW Value} {l : List Held} (h : MapL D l) (f : Held) (hn : ∀ x ∈ l, x.1.tag ≠ f.1.tag) : MapL (D.put (tgLit f.1.tag) (.held (fldV f))) (l ++ [f]) := by
  obtain ⟨h1, h2, h3, h4, h5⟩ := h
  have hno : Maps.has D (tgLit f.1.tag) = false := by
    rw [h4, List.any_eq_false]
    intro x hx
    simpa using hn x hx
  refine ⟨h1.put (isKey _) _, ?_, ?_, fun k => ?_, fun q hq z => ?_⟩
  · rw [size_put h1, hno]; simp [h2]
  · rw [List.map_append, List.nodup_append]
    refine ⟨h3, by simp, fun a ha b hb => ?_⟩
    simp only [List.map_cons, List.map_nil, List.mem_singleton] at hb
    subst hb
    obtain ⟨x, hx, rfl⟩ := List.mem_map.1 ha
    exact hn x hx
  · by_cases hk : k = f.1.tag
    · subst hk; rw [has_put_same h1.isMap (isKey _)]; simp
    · rw [has_put_other (fun hc => hk (tgLit_inj hc)), h4]
      have : ¬ f.1.tag = k := fun hc => hk hc.symm
      simp [this]
  · rcases List.mem_append.1 hq with hq | hq
    · rw [atKey_put_other (fun hc => hn _ hq (tgLit_inj hc))]; exact h5 q hq z
    · rw [List.mem_singleton.1 hq]
      exact atKey_put_same h1.isMap (isKey _) _ _
def strike (t : Int) (l : List Held) : List Held := l.filter fun h => decide (h.1.tag ≠ t)
theorem map_del {D : DataW Value} {l : List Held} (h : MapL D l) (t : Int) : MapL (D.del (tgLit t)) (strike t l) := by
  obtain ⟨h1, h2, h3, h4, h5⟩ := h
  have hnd : (strike t l).length + (if l.any (fun p => decide (p.1.tag = t)) then 1 else 0) = l.length := by
    clear h2 h4 h5
    unfold strike
    induction l with
    | nil => rfl
    | cons a l ih =>
      rw [List.map_cons, List.nodup_cons] at h3
      have ih := ih h3.2
      by_cases ha : a.1.tag = t
      · have hno : l.any (fun p => decide (p.1.tag = t)) = false := by
          rw [List.any_eq_false]
          intro x hx hc
          exact h3.1 (List.mem_map.2 ⟨x, hx, by rw [ha]; simpa using hc⟩)
        rw [hno] at ih
        simp [ha] at ih ⊢
        exact ih
      · rw [List.filter_cons_of_pos (by simpa using ha), List.any_cons, show decide (a.1.tag = t) = false by simpa using ha, Bool.false_or, List.length_cons, List.length_cons]
        omega
  refine ⟨h1.del _, ?_, ?_, fun k => ?_, fun q hq z => ?_⟩
  · have := size_del (k := tgLit t) h1
    rw [h4] at this
    omega
  · exact (List.Sublist.map _ List.filter_sublist).nodup h3
  · by_cases hk : k = t
    · subst hk
      rw [has_del_same]
      symm
      rw [List.any_eq_false]
      intro x hx
      have := (List.mem_filter.1 hx).2
      simpa using this
    · rw [has_del_other (fun hc => hk (tgLit_inj hc)), h4]
      rw [Bool.eq_iff_iff]
      simp only [List.any_eq_true, List.mem_filter, strike, decide_eq_true_eq]
      constructor
      · rintro ⟨x, hx, rfl⟩
        exact ⟨x, ⟨hx, hk⟩, rfl⟩
      · rintro ⟨x, ⟨hx, _⟩, rfl⟩
        exact ⟨x, hx, rfl⟩
  · have hq2 := List.mem_filter.1 hq
    rw [atKey_del_other (fun hc => by simp at hq2; exact hq2.2 (tgLit_inj hc))]
    exact h5 q hq2.1 z
theorem zero_fld (w : World) : (zeroValue 70).run Tryz.prog w = .ok (.agg (fcells noFld none 0)) w := by kernel_rfl
theorem look_hit {w : World} {b : Nat} {D : DataW Value} {l : List Held} (ho : OwnM w b D) (hm : MapL D l) {f : Held} (hl : f ∈ l) (hs : IsI f.1.tag) :
    (Instr.lookup 85 (.map (some b)) (.int .i64 f.1.tag) true).run Tryz.prog w = .ok (.tuple #[fldV f, .bool true]) w := by
  obtain ⟨n, _, ho⟩ := ho
  obtain ⟨v, ps, hr, hv⟩ := ho.look_ok key_law Tryz.underlying85 (zero_fld w) (zd := .held (.agg (fcells noFld none 0))) rfl (key_int _ hs)
  rw [hm.2.2.2.2 f hl] at hv
  simp only [tokR, Option.some.injEq, Prod.mk.injEq, DataW.held.injEq] at hv
  rw [hr, hv.1, hm.2.2.2.1]
  have : (l.any fun p => decide (p.1.tag = f.1.tag)) = true := List.any_eq_true.2 ⟨f, hl, by simp⟩
  rw [this]
theorem look_miss {w : World} {b : Nat} {D : DataW Value} {l : List Held} (ho : OwnM w b D) (hm : MapL D l) {t : Int} (hl : ∀ x ∈ l, x.1.tag ≠ t) (hs : IsI t) :
    (Instr.lookup 85 (.map (some b)) (.int .i64 t) true).run Tryz.prog w = .ok (.tuple #[.agg (fcells noFld none 0), .bool false]) w := by
  obtain ⟨n, _, ho⟩ := ho
  obtain ⟨v, ps, hr, hv⟩ := ho.look_ok key_law Tryz.underlying85 (zero_fld w) (zd := .held (.agg (fcells noFld none 0))) rfl (key_int _ hs)
  have hno : Maps.has D (tgLit t) = false := by
    rw [hm.2.2.2.1, List.any_eq_false]
    intro x hx
    simpa using hl x hx
  rw [atKey_of_not_has hno] at hv
  simp only [tokR, Option.some.injEq, Prod.mk.injEq, DataW.held.injEq] at hv
  rw [hr, ← hv.1, hno]
theorem map_len {w : World} {b : Nat} {D : DataW Value} {l : List Held} (ho : OwnM w b D) (hm : MapL D l) (ty : TypeId) : (Builtin.len_ #[85] ty #[.map (some b)]).run Tryz.prog w = .ok (.int .i64 (l.length : Nat)) w := by
  obtain ⟨n, _, ho⟩ := ho
  rw [ho.len Tryz.underlying85 ty, hm.2.1]
theorem map_store {w : World} {b : Nat} {D : DataW Value} {l : List Held} (ho : OwnM w b D) (hm : MapL D l) (hl : l.length ≤ 4000) (f : Held) (hs : IsI f.1.tag) :
    ∃ w', (Instr.mapUpdate 85 (.map (some b)) (.int .i64 f.1.tag) (fldV f)).run Tryz.prog w = .ok () w' ∧ OwnM w' b (D.put (tgLit f.1.tag) (.held (fldV f))) ∧ w.grownBy w' (some b) := by
  obtain ⟨n, _, es, clock, hb, F, _, hD⟩ := ho
  have hsz : es.size ≤ 4000 := by
    have := hm.2.1
    rw [hD] at this
    simp [Maps.size, length_sorted] at this
    omega
  have ho : w.ownsMap Tryz.prog 3 tokR b 4000 D := ⟨es, clock, hb, F, hsz, hD⟩
  obtain ⟨w', h1, h2, h3⟩ := ho.update key_law Tryz.underlying85 (by simp only [maxLen]; omega) (key_int _ hs) (val := fldV f) (d := .held (fldV f)) (ps := []) rfl
  exact ⟨w', h1, ⟨4001, by omega, h2⟩, h3⟩
theorem map_drop {w : World} {b : Nat} {D : DataW Value} (ho : OwnM w b D) {t : Int} (hs : IsI t) (ty : TypeId) :
    ∃ w', (Builtin.delete_ #[85, 3] ty #[.map (some b), .int .i64 t]).run Tryz.prog w = .ok (.tuple #[]) w' ∧ OwnM w' b (D.del (tgLit t)) ∧ w.grownBy w' (some b) := by
  obtain ⟨n, hn, ho⟩ := ho
  obtain ⟨w', h1, h2, es, clock, es', clock', h3, rfl⟩ := ho.drop key_law Tryz.underlying85 (key_int t hs) ty
  exact ⟨_, h1, ⟨n, hn, h2⟩, ⟨rfl, rfl, rfl, by simp [ChangeMaps.setBlock], fun i _ hi => ChangeMaps.heap_setBlock_other h3 _ (fun e => hi (by rw [e]))⟩⟩
end Go.Proofs.YtipdilmlodakoaaGreat
