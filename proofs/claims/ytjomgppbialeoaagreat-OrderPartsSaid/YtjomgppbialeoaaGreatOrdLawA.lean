/-
  The walk of OrderStays.
-/
/-
  The walk of OrderForeign.
-/
/-
  Laws for regions that draw their order and are walked by hand: a new empty slice, an append from a slice that reads.
-/
/-
  The walk of OrderCut.
-/
/-
  The walk of OrderCut. (Written by wip/tools/gen_cut.py.)
-/
import Derived.Test.YtjomgppbialeoaaGreatOrdAa
import Derived.Test.YtjomgppbialeoaaGreatOpenO
import Derived.Test.YtjomgppbialeoaaGreatHand
import Derived.Test.YtjomgppbialeoaaGreatOrdN
namespace Go.Proofs.YtjomgppbialeoaaGreat
open Go.RowKit
set_option linter.unusedVariables false
set_option linter.unusedSimpArgs false
theorem ev_sm {e : Ev} (h : EvWf e) : EvSm e := ⟨by have := h.2.1; omega, by have := h.2.2; omega⟩
theorem st_sm {s : St} (h : StWf s) : StSm s ∨ True := .inr trivial
theorem empty_valid : validB (noSt 1) = true := by kernel_rfl
def StyR (w : World) (G : Nat) (es : List Ev) (c22 : Value) (wr : World) : Prop :=
  ∃ (k : Nat) (s : St) (A : Option Addr) (c : Nat), c22 = .int .i64 (k : Nat) ∧ k ≤ es.length ∧ Ext w wr ∧ Blk wr G 25 (stcells s A c) ∧ OwnLs wr w.heap.size A s.lines c ∧ VOk s
end Go.Proofs.YtjomgppbialeoaaGreat

namespace Go.Proofs.YtjomgppbialeoaaGreat
open Go.RowKit
set_option linter.unusedVariables false
set_option linter.unusedSimpArgs false
theorem el_ev : Elem Tryz.prog 38 (.agg (evcells ⟨0, 0, 0, 0, 0, 0, 0, ⟨#[]⟩, 0, ⟨#[]⟩⟩)) 10 96 := ⟨by kernel_rfl, rfl, by decide⟩
theorem ev_one1 (e : Ev) : ∀ v ∈ (evcells e).toList, v.oneCell' = true := by
  intro v hv; simp [evcells] at hv; rcases hv with rfl | rfl | rfl | rfl | rfl | rfl | rfl | rfl | rfl | rfl <;> rfl
theorem evCells_one (es : List Ev) : ∀ v ∈ evCells es, v.oneCell' = true := by
  intro v hv
  obtain ⟨e, _, he⟩ := List.mem_flatMap.1 hv
  exact ev_one1 e v he
theorem evCells_app (a b : List Ev) : evCells (a ++ b) = evCells a ++ evCells b := by simp [evCells]
def OwnEs (w : World) (base : Nat) (A : Option Addr) (es : List Ev) (c : Nat) : Prop := w.ownsRow base 38 10 (.slice A es.length c) es.length (evCells es)
theorem OwnEs.rd {w : World} {base : Nat} {A : Option Addr} {c : Nat} {es : List Ev} (h : OwnEs w base A es c) : EsRd w A es := RdN.of_own h
theorem OwnEs.mono {w w' : World} {base c : Nat} {A : Option Addr} {es : List Ev} (h : OwnEs w base A es c) (hx : Ext w w') : OwnEs w' base A es c := World.ownsRow.kept h (ext_grown hx none) (by rcases hA : (Value.slice A es.length c).ownBlock with _ | g; exact .inl rfl; exact .inr (by simp))
theorem rd_one_ev {w : World} {vb : Nat} {e : Ev} (hv : Blk w vb 38 (evcells e)) : RdN w 10 (some ⟨vb, 0, none⟩) 1 (evcells e).toList :=
  ⟨rfl, fun _ => ⟨vb, 0, rfl, fun j u hu => by rw [Nat.zero_add, hv.cell]; simpa using hu⟩⟩
def own (id : Int) (es : List Ev) : List Ev := es.filter fun e => decide (e.order = id)
theorem own_take {id : Int} {es : List Ev} {k : Nat} (hk : k < es.length) : own id (es.take (k + 1)) = if es[k].order = id then own id (es.take k) ++ [es[k]] else own id (es.take k) := by
  unfold own
  rw [List.take_succ_eq_append_getElem hk, List.filter_append]
  by_cases h : es[k].order = id
  · rw [if_pos h]; simp [h]
  · rw [if_neg h]; simp [h]
theorem fown_len (id : Int) (es : List Ev) (k : Nat) : (own id (es.take k)).length ≤ k := by
  unfold own
  exact Nat.le_trans (List.length_filter_le _ _) (by rw [List.length_take]; omega)
theorem foreign_apply {s : St} {e : Ev} (h : e.order ≠ s.order) : (apply s e).1 = s := by
  have : judge s e = 1 ∨ judge s e = 2 := by
    unfold judge
    by_cases h1 : validB s = false ∨ check5 e ≠ 0 ∨ s.events = 1099511627776
    · exact .inl (if_pos h1)
    · exact .inr (by rw [if_neg h1, if_pos h])
  unfold apply
  rw [if_pos this]
theorem order_apply_ (s : St) (e : Ev) : (apply s e).1.order = s.order := by
  unfold apply
  split
  · rfl
  split
  · rfl
  · show (rule (bump s e) e).order = s.order
    unfold rule
    repeat' split
    all_goals rfl
theorem fold_own {id : Int} (s : St) (h : s.order = id) (es : List Ev) : fold s es = fold s (own id es) := by
  unfold fold own
  induction es generalizing s with
  | nil => rfl
  | cons e r ih =>
    rw [List.foldl_cons, List.filter_cons]
    by_cases he : e.order = id
    · rw [if_pos (by simpa using he), List.foldl_cons]
      exact ih _ ((order_apply_ s e).trans h)
    · rw [if_neg (by simpa using he), foreign_apply (by rw [h]; exact he)]
      exact ih s h
theorem sm_no (id : Int) : StSm (noSt id) := ⟨Nat.zero_le _, Nat.zero_le _⟩
def FrR (w : World) (id : Int) (es : List Ev) (c5 c14 : Value) (wr : World) : Prop :=
  ∃ (k : Nat) (A : Option Addr) (c : Nat), c14 = .int .i64 (k : Nat) ∧ k ≤ es.length ∧ c5 = .slice A (own id (es.take k)).length c ∧ Ext w wr ∧ OwnEs wr w.heap.size A (own id (es.take k)) c
end Go.Proofs.YtjomgppbialeoaaGreat

namespace Go.Proofs.YtjomgppbialeoaaGreat
open Go.RowKit
set_option linter.unusedVariables false
set_option linter.unusedSimpArgs false
section
variable {P : Program} {w : World} {ops : Array Oper} {o : Oper} {a : Act} {K : Act → World → Prop} {Q : Exit → Act → World → Prop} {E : Prop}
theorem step_append_rd (hg : o.guard = none) (d : Option Tmp) (hd : o.dst = d) (s x : Operand) (t : TypeId) (hop : o.op = Op.call { callee := Callee.builtin Builtin.append, args := #[s, x], argTypes := #[t, t] })
    (base : Nat) (e : TypeId) (z : Value) (size bytes : Nat) (h1 : P.underlying t = some (.slice e)) (he : Elem P e z size bytes)
    (v : Value) (n : Nat) (xs : List Value) (hs : a.eval s = v) (hown : w.ownsRow base e size v n xs)
    (A : Option Addr) (m c : Nat) (news : List Value) (hx : a.eval x = .slice A m c) (hr : RdN w size A m news) (h1c : ∀ u ∈ news, u.oneCell' = true)
    (b1 : n + m ≤ maxLen) (b2 : (n + m) * bytes ≤ 140737488355328) (hbase : base ≤ w.heap.size)
    (hK : ∀ v' w', w'.ownsRow base e size v' (n + m) (xs ++ news) → w.grownBy w' v.ownBlock → K (a.put d v') w') :
    if Region.wanted o (yielded ops a.tmps) = true then Oper.wp P o a w K Q else E := by
  subst hd
  have hw : Region.wanted o (yielded ops a.tmps) = true := by simp [Region.wanted, hg]
  rw [if_pos hw]
  obtain ⟨v', w', hrun, r1, r2, _⟩ := run_append_rd (P := P) base t o.type e z size bytes h1 he v n xs hown A m c news hr h1c b1 b2 hbase
  unfold Oper.wp
  simp [execOp, hop, resolve, invoke, builtin, hs, hx, hrun, Result.andThen]
  exact hK v' w' r1 r2
theorem step_new0 (hgd : o.guard = none) (d : Option Tmp) (hd : o.dst = d) (t e : TypeId) (ho : o.op = .buildSlice t 0 #[])
    (hz : ∀ w, (Instr.buildSlice t 0 #[]).run P w = .ok (.slice (some ⟨w.heap.size, 0, none⟩) 0 0) (w.alloc (.cells #[] e)))
    (hK : ∀ g w', w.heap.size ≤ g → Ext w w' → Blk w' g e #[] → K (a.put d (.slice (some ⟨g, 0, none⟩) 0 0)) w') :
    if Region.wanted o (yielded ops a.tmps) = true then Oper.wp P o a w K Q else E := by
  subst hd
  have hwt : Region.wanted o (yielded ops a.tmps) = true := by simp [Region.wanted, hgd]
  rw [if_pos hwt]
  unfold Oper.wp execOp
  simp only [ho, List.map_toArray, List.map_nil, Sem.run_bind, hz w, Result.andThen_ok, Sem.run_pure]
  exact hK _ _ (Nat.le_refl _) (ExtA (Ext.rfl' w)) (BlkN rfl)
end
theorem alloc_st0 (w : World) : (Instr.alloc 25 true (.tuple #[])).run Tryz.prog w = .ok (.pointer (some ⟨w.heap.size, 0, none⟩)) (w.alloc (.cells #[.int .i64 0, .int .i64 0, .int .i64 0, .int .i64 0, .int .i64 0, .slice none 0 0, .int .i64 0, .int .i64 0, .int .i64 0, .int .i64 0, .int .i64 0, .string ⟨#[]⟩] 25)) := by kernel_rfl
end Go.Proofs.YtjomgppbialeoaaGreat

namespace Go.Proofs.YtjomgppbialeoaaGreat
open Go.RowKit
set_option linter.unusedVariables false
set_option linter.unusedSimpArgs false
theorem fold_app (s : St) (a b : List Ev) : fold s (a ++ b) = fold (fold s a) b := by unfold fold; rw [List.foldl_append]
theorem evCells_take (es : List Ev) (k : Nat) : evCells (es.take k) = (evCells es).take (k * 10) := by
  induction es generalizing k with
  | nil => simp [evCells]
  | cons e r ih =>
    cases k with
    | zero => simp [evCells]
    | succ k =>
      rw [List.take_succ_cons]
      show (evcells e).toList ++ evCells (r.take k) = ((evcells e).toList ++ evCells r).take ((k + 1) * 10)
      rw [ih, show (k + 1) * 10 = (evcells e).toList.length + k * 10 by simp [evcells]; omega, List.take_length_add_append]
theorem evCells_drop (es : List Ev) (k : Nat) : evCells (es.drop k) = (evCells es).drop (k * 10) := by
  induction es generalizing k with
  | nil => simp [evCells]
  | cons e r ih =>
    cases k with
    | zero => simp [evCells]
    | succ k =>
      rw [List.drop_succ_cons]
      show evCells (r.drop k) = ((evcells e).toList ++ evCells r).drop ((k + 1) * 10)
      rw [ih, show (k + 1) * 10 = (evcells e).toList.length + k * 10 by simp [evcells]; omega, List.drop_length_add_append]
/-- The head of a slice of events. -/
theorem es_head_rd {w : World} {B : Option Addr} {es : List Ev} {k : Nat} (h : EsRd w B es) (hk : k ≤ es.length) : RdN w 10 B k (evCells (es.take k)) := by
  refine ⟨by rw [evCells_len, List.length_take]; omega, fun h0 => ?_⟩
  obtain ⟨b, o, rfl, hc⟩ := h.2 (by omega)
  refine ⟨b, o, rfl, fun j u hu => hc j u ?_⟩
  rw [evCells_take, List.getElem?_take] at hu
  split at hu
  · exact hu
  · cases hu
/-- The tail of a slice of events, wherever the model lets it begin. -/
theorem es_tail_rd {w : World} {b o : Nat} {es : List Ev} {k : Nat} (h : EsRd w (some ⟨b, o, none⟩) es) (hk : k ≤ es.length) (A : Option Addr) (hA : k < es.length → A = some ⟨b, o + k * 10, none⟩) : RdN w 10 A (es.length - k) (evCells (es.drop k)) := by
  refine ⟨by rw [evCells_len, List.length_drop], fun h0 => ?_⟩
  refine ⟨b, o + k * 10, hA (by omega), fun j u hu => ?_⟩
  obtain ⟨b', o', he, hc⟩ := h.2 (by omega)
  cases he
  rw [evCells_drop, List.getElem?_drop] at hu
  rw [Nat.add_assoc]
  exact hc _ u hu
end Go.Proofs.YtjomgppbialeoaaGreat

namespace Go.Proofs.YtjomgppbialeoaaGreat
open Go.RowKit
set_option linter.unusedVariables false
set_option linter.unusedSimpArgs false
theorem Ext.size {a b : World} (h : Ext a b) : a.heap.size ≤ b.heap.size := Below.size h
def CutB (W : World) (n : Nat) (cut : Int) (v18 : Value) (wc : World) : Prop := ∃ b, v18 = .bool b ∧ (b = true ∨ 0 ≤ cut ∧ cut ≤ n) ∧ Ext W wc
def CutR (W : World) (n : Nat) (v2 : Value) (wc : World) : Prop := ∃ k : Nat, k ≤ n ∧ v2 = .int .i64 (k : Nat) ∧ Ext W wc
def CutS (W : World) (s : St) (v8 : Value) (wc : World) : Prop := ∃ g A c, v8 = .pointer (some ⟨g, 0, none⟩) ∧ Ext W wc ∧ W.heap.size ≤ g ∧ Blk wc g 25 (stcells s A c) ∧ OwnLs wc W.heap.size A s.lines c
theorem new_ev (w : World) : (Instr.buildSlice 39 0 #[]).run Tryz.prog w = .ok (.slice (some ⟨w.heap.size, 0, none⟩) 0 0) (w.alloc (.cells #[] 38)) := by kernel_rfl
theorem own_new0 {w : World} {b g s : Nat} {e : TypeId} (hb : Blk w g e #[]) (hg : b ≤ g) : w.ownsRow b e s (.slice (some ⟨g, 0, none⟩) 0 0) 0 [] :=
  ⟨by simp, .inr ⟨g, 0, #[], rfl, hg, hb, Nat.le_refl _, Nat.zero_le _, by simp, by simp⟩⟩
theorem own_evs {w : World} {b n c : Nat} {e : TypeId} {A : Option Addr} {xs : List Value} (h : w.ownsRow b e 10 (.slice A (0 + n) c) (0 + n) ([] ++ xs)) : RdN w 10 A n xs := by
  rw [Nat.zero_add, List.nil_append] at h
  exact RdN.of_own h
theorem own_keepB {w w' : World} {b s n g : Nat} {e : TypeId} {v : Value} {xs : List Value} (h : w.ownsRow b e s v n xs) (hk : ∀ g' t' cs', g' ≠ g → Blk w g' t' cs' → Blk w' g' t' cs') (hne : v.ownBlock ≠ some g) : w'.ownsRow b e s v n xs := by
  obtain ⟨h1, h2 | ⟨g1, cap, cur, h2, h3, h4, h5⟩⟩ := h
  · exact ⟨h1, .inl h2⟩
  · refine ⟨h1, .inr ⟨g1, cap, cur, h2, h3, hk _ _ _ (fun hc => hne ?_) h4, h5⟩⟩
    rw [h2, hc]; rfl
theorem yields_slice {P : Program} {ops : Array Oper} {o : Oper} {a : Act} {S : World → Prop} (t : TypeId) (hel : P.underlying t = some (.slice (P.elem t))) (hwt : Region.wanted o (yielded ops a.tmps) = true) (x : Operand) (lo hi : Option Operand) (ho : o.op = .slice t x lo hi none)
    (vx : Value) (lov hiv : Option Value) (v : Value) (hx : a.eval x = vx) (hlo : lo.map a.eval = lov) (hhi : hi.map a.eval = hiv) (hrun : ∀ w, (Instr.slice t vx lov hiv none).run P w = .ok v w) : YieldsIf P ops S o v a :=
  .inl ⟨hwt, fun w _ => by
    unfold execOp
    simp only [ho, hx, hlo, hhi, Option.map_none, Sem.run_bind, run_sliceAt_slice w t _ _ _ _ hel, hrun w, Result.andThen_ok, Sem.run_pure]⟩
theorem size_evE (w : World) : (sizeOf (Tryz.prog.elem 39)).run Tryz.prog w = .ok 10 w := by kernel_rfl
theorem elem_evE : Tryz.prog.underlying 39 = some (.slice (Tryz.prog.elem 39)) := by kernel_rfl
/-- 'es[:k]'. -/
theorem slice_ev_h (A : Option Addr) (n c k : Nat) (hk : k ≤ n) (hc : n ≤ c) :
    ∃ A' c', (∀ W : World, (Instr.slice 39 (.slice A n c) none (some (.int .i64 (k : Nat))) none).run Tryz.prog W = .ok (.slice A' k c') W) ∧ ∀ (W : World) (es : List Ev), es.length = n → EsRd W A es → RdN W 10 A' k (evCells (es.take k)) := by
  refine ⟨if c = 0 then A else A.map (·.add (0 * 10)), c, fun W => ?_, fun W es hl hr => ?_⟩
  · rw [run_slice_h W 39 A n c elem_evE .i64 k (by omega) (by omega), size_evE, Result.andThen_ok]
    simp [sliced]
  · have h := es_head_rd hr (show k ≤ es.length by omega)
    refine ⟨h.1, fun h0 => ?_⟩
    obtain ⟨b, o, rfl, hcell⟩ := h.2 h0
    rw [if_neg (by omega)]
    exact ⟨b, o, by simp [Addr.add], hcell⟩
/-- 'es[k:]'. -/
theorem slice_ev_l (A : Option Addr) (n c k : Nat) (hk : k ≤ n) (hc : n ≤ c) :
    ∃ A' c', (∀ W : World, (Instr.slice 39 (.slice A n c) (some (.int .i64 (k : Nat))) none none).run Tryz.prog W = .ok (.slice A' (n - k) c') W) ∧ ∀ (W : World) (es : List Ev), es.length = n → EsRd W A es → RdN W 10 A' (n - k) (evCells (es.drop k)) := by
  refine ⟨if c = k then A else A.map (·.add (k * 10)), c - k, fun W => ?_, fun W es hl hr => ?_⟩
  · rw [run_slice_l W 39 A n c elem_evE .i64 k (by omega) (by omega), size_evE, Result.andThen_ok]
    simp [sliced]
  · subst hl
    refine ⟨by rw [evCells_len, List.length_drop], fun h0 => ?_⟩
    obtain ⟨b, o, rfl, hcell⟩ := hr.2 (by omega)
    rw [if_neg (by omega)]
    exact (es_tail_rd (k := k) hr hk _ (fun _ => by by_cases h : k * 10 = 0 <;> simp [Addr.add, h])).2 h0
end Go.Proofs.YtjomgppbialeoaaGreat
