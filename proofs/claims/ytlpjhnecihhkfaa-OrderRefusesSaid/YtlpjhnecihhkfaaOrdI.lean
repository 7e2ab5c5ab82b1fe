/-
  Lines of the call's own; copies and clears of structs; slices.Clone at lines.
-/
import Derived.Test.YtlpjhnecihhkfaaOrdX
import Derived.Handy
import Derived.Deep.RegionHeld3
import Derived.Shelf.Spec.SlicesInsert
import Derived.Lib.AppendZerosOnto
import Derived.Deep.RegionLaw
namespace Go.Proofs.Ytlpjhnecihhkfaa
open Go.RowKit
set_option linter.unusedVariables false
set_option linter.unusedSimpArgs false
theorem el_ln : Elem Try.prog 48 (.agg (lncells ⟨0, 0, 0, 0⟩)) 4 32 := ⟨by kernel_rfl, rfl, by decide⟩
/-- Lines of the call's own. -/
def OwnLs (w : World) (base : Nat) (A : Option Addr) (ls : List Ln) (c : Nat) : Prop := w.ownsRow base 48 4 (.slice A ls.length c) ls.length (lnCells ls)
theorem OwnLs.rd {w : World} {base : Nat} {A : Option Addr} {c : Nat} {ls : List Ln} (h : OwnLs w base A ls c) : LsRd w A ls := RdN.of_own h
theorem lnCells_zero : lnCells [] = [] := rfl
/-- A row that has cells laid over it from a place on. -/
def over (cur : Array Value) (o : Nat) (vs : List Value) (cur' : Array Value) : Prop := cur'.size = cur.size ∧ ∀ j, cur'[j]? = if o ≤ j ∧ j < o + vs.length then vs[j - o]? else cur[j]?
theorem setCells_blk {g : Nat} {t : TypeId} : ∀ (vs : List Value) (o : Nat) (w : World) (cur : Array Value), Blk w g t cur → o + vs.length ≤ cur.size → ∃ cur', Blk (w.setCells g o vs) g t cur' ∧ over cur o vs cur'
  | [], o, w, cur, h, _ => ⟨cur, h, rfl, fun j => by rw [if_neg (by rw [List.length_nil]; omega)]⟩
  | v :: r, o, w, cur, h, hl => by
    simp only [List.length_cons] at hl
    obtain ⟨cur', h1, h2, h3⟩ := setCells_blk r (o + 1) (w.setCell ⟨g, o, none⟩ v) (cur.setIfInBounds o v) (BlkS h) (by simp; omega)
    refine ⟨cur', h1, by rw [h2]; simp, fun j => ?_⟩
    rw [h3 j]
    by_cases hj : o + 1 ≤ j ∧ j < o + 1 + r.length
    · rw [if_pos hj, if_pos (by rw [List.length_cons]; omega), show j - o = (j - (o + 1)) + 1 by omega, List.getElem?_cons_succ]
    · rw [if_neg hj]
      by_cases hjo : j = o
      · subst hjo
        rw [if_pos (by rw [List.length_cons]; omega), Nat.sub_self, List.getElem?_cons_zero, Array.getElem?_setIfInBounds]
        rw [if_pos rfl, if_pos (by omega)]
      · rw [if_neg (by rw [List.length_cons]; omega), Array.getElem?_setIfInBounds, if_neg (by omega)]
section
variable {P : Program} {w : World}
theorem run_copyN (dT ty elem : TypeId) (b o dLen dCap : Nat) (a : Addr) (sLen sCap : Nat) (cs : List Value) (size k : Nat)
    (hu : P.underlying dT = some (.slice elem)) (hs : (P.info? elem).map (·.size) = some size) (hk : k = Nat.min sLen dLen) (hn : cs.length = k * size)
    (hsrc : ∀ j v, cs[j]? = some v → w.cell? (a.add j) = some v) (cur : Array Value) (t : TypeId) (hb : Blk w b t cur) (hfit : o + cs.length ≤ cur.size) (h1 : ∀ v ∈ cs, v.oneCell' = true) :
    (Builtin.copy_ #[dT, dT] ty #[.slice (some ⟨b, o, none⟩) dLen dCap, .slice (some a) sLen sCap]).run P w = .ok (goInt k) (w.setCells b o cs) := by
  have hl := run_loadCells_list (P := P) w a cs hsrc
  have hst := run_storeCells_cells (P := P) b o cs 0 w (fun j hj => by rw [hb.cell, Array.getElem?_eq_getElem (by omega)]; rfl) (fun j _ => hb.frozen _) h1
  cases hq : P.info? elem with
  | none => simp [hq] at hs
  | some i =>
    have hi : i.size = size := by simpa [hq] using hs
    subst hk
    simp [Builtin.copy_, run_underlying hu, Builtin.lenOf, Builtin.firstCells, sizeOf, typeInfo, hq, hi, ← hn, hl, hst]
theorem run_clearN (t ty elem : TypeId) (z : Value) (zs : Array Value) (size : Nat) (hu : P.underlying t = some (.slice elem)) (he : (P.info? elem).map (fun i => (i.zero, i.size)) = some (some z, size)) (hz : z.cells = zs)
    (b o n c : Nat) (h0 : 0 < n) (cs : List Value) (hcs : (Builtin.zeroCells zs n).toList = cs) (cur : Array Value) (tb : TypeId) (hb : Blk w b tb cur) (hfit : o + cs.length ≤ cur.size) (h1 : ∀ v ∈ cs, v.oneCell' = true) :
    (Builtin.clear_ #[t] ty #[.slice (some ⟨b, o, none⟩) n c]).run P w = .ok (.tuple #[]) (w.setCells b o cs) := by
  have hst := run_storeCells_cells (P := P) b o cs 0 w (fun j hj => by rw [hb.cell, Array.getElem?_eq_getElem (by omega)]; rfl) (fun j _ => hb.frozen _) h1
  subst hcs hz
  obtain ⟨m, rfl⟩ : ∃ m, n = m + 1 := ⟨n - 1, by omega⟩
  cases hq : P.info? elem with
  | none => simp [hq] at he
  | some i =>
    simp [hq] at he
    simp [Builtin.clear_, run_underlying hu, zeroValue, typeInfo, hq, he.1, hst]
theorem wpL_builtin {ops : Array Oper} {rest : List Oper} {o : Oper} {a : Act} {Q : Exit → Act → World → Prop} (hgd : o.guard = none) (d : Operand) (t : TypeId)
    (ho : o.op = .call { callee := .builtin .clear, args := #[d], argTypes := #[t] }) (v : Value) (hd : a.eval d = v) {v' : Value} {w' : World}
    (hr : (Builtin.clear_ #[t] o.type #[v]).run P w = .ok v' w') (h : wpList P ops Q rest (a.put o.dst v') w') : wpList P ops Q (o :: rest) a w := by
  refine wpList_plain hgd fun K hK => ?_
  unfold Oper.wp execOp
  simp only [ho, resolve, invoke, builtin, Sem.run_bind, Sem.run_pure, Result.andThen_ok, List.map_toArray, List.map_cons, List.map_nil, hd, hr]
  exact hK _ _ h
end
def NewLs (W : World) (ls : List Ln) (e : Ending) (w' : World) : Prop := ∃ A c, e = .returned (.slice A ls.length c) ∧ Ext W w' ∧ OwnLs w' W.heap.size A ls c
theorem own_noLn (w : World) : (w.alloc (.cells #[] 48)).ownsRow w.heap.size 48 4 (.slice (some ⟨w.heap.size, 0, none⟩) 0 0) 0 [] := own_new w w.heap.size #[] _ 0 (Nat.le_refl _) (by decide) rfl
set_option maxRecDepth 100000 in
set_option maxHeartbeats 400000 in
theorem clone_any (A : Option Addr) (ls : List Ln) (c : Nat) (w : World) (hr : LsRd w A ls) (hn : ls.length ≤ 4398046510976) :
    Calls Try.prog 47 #[.slice A ls.length c] w (NewLs w ls) := by
  rcases A with _ | ad
  · have hn0 : ls.length = 0 := by
      rcases Nat.eq_zero_or_pos ls.length with h | h
      · exact h
      · obtain ⟨b, o, h2, _⟩ := hr.2 h; cases h2
    have hl : ls = [] := List.eq_nil_of_length_eq_zero (by omega)
    subst hl
    clear hn0 hr
    go_enter Try.func47, Try.ntmps47
    have hq := fun (W : World) (n c : Nat) => Lib.run_eql_slice_nil (P := Try.prog) W 23 48 none n c 0 0 Try.underlying23
    go_wp2_with fail
    go_ret
    exact ⟨none, 0, rfl, (by repeat (first | with_reducible exact Below.refl _ _ | with_reducible assumption | with_reducible refine ExtD ?_ | with_reducible refine ExtDN ?_ | with_reducible refine ExtA ?_ | (with_reducible refine ExtR ?_ ?_; (first | omega | (dsimp only; omega) | (simp; done) | (simp; omega))) | (with_reducible refine ExtS ?_ ?_; (first | omega | (dsimp only; omega) | (simp; done) | (simp; omega))) | with_reducible refine Ext.tr ?_ (by with_reducible assumption))), World.ownsRow_nil _ _ _ _⟩
  · have hq := fun (W : World) (n c : Nat) => Lib.run_eql_slice_nil (P := Try.prog) W 23 48 (some ad) n c 0 0 Try.underlying23
    have Hn := Lib.hid hn
    have Hr : Hid (RdN w 4 (some ad) ls.length (lnCells ls)) := Lib.hid hr
    have Ho := Lib.hid (lnCells_one ls)
    go_enter Try.func47, Try.ntmps47
    go_wp2_with (at_builtin; go_must (refine wpL_copy rfl (.tmp 5) (.tmp 6) 23 rfl 48 _ 4 32 Try.underlying23 el_ln _ _ _ _ rfl rfl Hr.out Ho.out (by have := Hn.out; omega) (by have := Hn.out; simp only [maxLen]; omega) ?_); intro A2 c2 w2 hx2 hown2)
    go_ret
    exact ⟨A2, c2, rfl, hx2, hown2⟩
end Go.Proofs.Ytlpjhnecihhkfaa
