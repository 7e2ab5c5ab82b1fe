/-
  Lines of the call's own; copies and clears of structs; slices.Clone at lines.
-/
/-
  The walk of slices.Insert at lines: one line.
-/
/-
  The walk of slices.Insert at lines: in the middle, where there is room.
-/
import Derived.Test.YtjomgppbialeoaaGreatOrdW
import Derived.Handy
import Derived.Deep.RegionHeld3
import Derived.Shelf.Spec.SlicesInsert
import Derived.Lib.AppendZerosOnto
import Derived.Deep.RegionLaw
import Derived.Shelf.RegionOpenPlain
namespace Go.Proofs.YtjomgppbialeoaaGreat
open Go.RowKit
set_option linter.unusedVariables false
set_option linter.unusedSimpArgs false
theorem el_ln : Elem Tryz.prog 44 (.agg (lncells ⟨0, 0, 0, 0⟩)) 4 32 := ⟨by kernel_rfl, rfl, by decide⟩
/-- Lines of the call's own. -/
def OwnLs (w : World) (base : Nat) (A : Option Addr) (ls : List Ln) (c : Nat) : Prop := w.ownsRow base 44 4 (.slice A ls.length c) ls.length (lnCells ls)
theorem OwnLs.rd {w : World} {base : Nat} {A : Option Addr} {c : Nat} {ls : List Ln} (h : OwnLs w base A ls c) : LsRd w A ls := RdN.of_own h
theorem lnCells_zero : lnCells [] = [] := rfl
/-- A row that has cells laid over it from a place on. -/
def over (cur : Array Value) (o : Nat) (vs : List Value) (cur' : Array Value) : Prop := cur'.size = cur.size ∧ ∀ j, cur'[j]? = if o ≤ j ∧ j < o + vs.length then vs[j - o]? else cur[j]?
theorem setCells_blk {g : Nat} {t : TypeId} : ∀ (vs : List Value) (o : Nat) (w : World) (cur : Array Value), Blk w g t cur → o + vs.length ≤ cur.size → ∃ cur', Blk (w.setCells g o vs) g t cur' ∧ over cur o vs cur'
  | [], o, w, cur, h, _ => ⟨cur, h, rfl, fun j => by rw [if_neg (by rw [List.length_nil]; omega)]⟩
  | v :: r, o, w, cur, h, hl => by
    simp only [List.length_cons] at hl
    obtain ⟨cur', h1, h2, h3⟩ := setCells_blk r (o + 1) (w.setCell ⟨g, o, none⟩ v) (cur.setIfInBounds o v) (BlkS h) (by simp; omega)
    refine ⟨cur', h1, by rw [h2]; simp, fun j => ?_⟩
    rw [h3 j]
    by_cases hj : o + 1 ≤ j ∧ j < o + 1 + r.length
    · rw [if_pos hj, if_pos (by rw [List.length_cons]; omega), show j - o = (j - (o + 1)) + 1 by omega, List.getElem?_cons_succ]
    · rw [if_neg hj]
      by_cases hjo : j = o
      · subst hjo
        rw [if_pos (by rw [List.length_cons]; omega), Nat.sub_self, List.getElem?_cons_zero, Array.getElem?_setIfInBounds]
        rw [if_pos rfl, if_pos (by omega)]
      · rw [if_neg (by rw [List.length_cons]; omega), Array.getElem?_setIfInBounds, if_neg (by omega)]
section
variable {P : Program} {w : World}
theorem run_copyN (dT ty elem : TypeId) (b o dLen dCap : Nat) (a : Addr) (sLen sCap : Nat) (cs : List Value) (size k : Nat)
    (hu : P.underlying dT = some (.slice elem)) (hs : (P.info? elem).map (·.size) = some size) (hk : k = Nat.min sLen dLen) (hn : cs.length = k * size)
    (hsrc : ∀ j v, cs[j]? = some v → w.cell? (a.add j) = some v) (cur : Array Value) (t : TypeId) (hb : Blk w b t cur) (hfit : o + cs.length ≤ cur.size) (h1 : ∀ v ∈ cs, v.oneCell' = true) :
    (Builtin.copy_ #[dT, dT] ty #[.slice (some ⟨b, o, none⟩) dLen dCap, .slice (some a) sLen sCap]).run P w = .ok (goInt k) (w.setCells b o cs) := by
  have hl := run_loadCells_list (P := P) w a cs hsrc
  have hst := run_storeCells_cells (P := P) b o cs 0 w (fun j hj => by rw [hb.cell, Array.getElem?_eq_getElem (by omega)]; rfl) (fun j _ => hb.frozen _) h1
  cases hq : P.info? elem with
  | none => simp [hq] at hs
  | some i =>
    have hi : i.size = size := by simpa [hq] using hs
    subst hk
    simp [Builtin.copy_, run_underlying hu, Builtin.lenOf, Builtin.firstCells, sizeOf, typeInfo, hq, hi, ← hn, hl, hst]
theorem run_clearN (t ty elem : TypeId) (z : Value) (zs : Array Value) (size : Nat) (hu : P.underlying t = some (.slice elem)) (he : (P.info? elem).map (fun i => (i.zero, i.size)) = some (some z, size)) (hz : z.cells = zs)
    (b o n c : Nat) (h0 : 0 < n) (cs : List Value) (hcs : (Builtin.zeroCells zs n).toList = cs) (cur : Array Value) (tb : TypeId) (hb : Blk w b tb cur) (hfit : o + cs.length ≤ cur.size) (h1 : ∀ v ∈ cs, v.oneCell' = true) :
    (Builtin.clear_ #[t] ty #[.slice (some ⟨b, o, none⟩) n c]).run P w = .ok (.tuple #[]) (w.setCells b o cs) := by
  have hst := run_storeCells_cells (P := P) b o cs 0 w (fun j hj => by rw [hb.cell, Array.getElem?_eq_getElem (by omega)]; rfl) (fun j _ => hb.frozen _) h1
  subst hcs hz
  obtain ⟨m, rfl⟩ : ∃ m, n = m + 1 := ⟨n - 1, by omega⟩
  cases hq : P.info? elem with
  | none => simp [hq] at he
  | some i =>
    simp [hq] at he
    simp [Builtin.clear_, run_underlying hu, zeroValue, typeInfo, hq, he.1, hst]
theorem wpL_builtin {ops : Array Oper} {rest : List Oper} {o : Oper} {a : Act} {Q : Exit → Act → World → Prop} (hgd : o.guard = none) (d : Operand) (t : TypeId)
    (ho : o.op = .call { callee := .builtin .clear, args := #[d], argTypes := #[t] }) (v : Value) (hd : a.eval d = v) {v' : Value} {w' : World}
    (hr : (Builtin.clear_ #[t] o.type #[v]).run P w = .ok v' w') (h : wpList P ops Q rest (a.put o.dst v') w') : wpList P ops Q (o :: rest) a w := by
  refine wpList_plain hgd fun K hK => ?_
  unfold Oper.wp execOp
  simp only [ho, resolve, invoke, builtin, Sem.run_bind, Sem.run_pure, Result.andThen_ok, List.map_toArray, List.map_cons, List.map_nil, hd, hr]
  exact hK _ _ h
end
def NewLs (W : World) (ls : List Ln) (e : Ending) (w' : World) : Prop := ∃ A c, e = .returned (.slice A ls.length c) ∧ Ext W w' ∧ OwnLs w' W.heap.size A ls c
theorem own_noLn (w : World) : (w.alloc (.cells #[] 44)).ownsRow w.heap.size 44 4 (.slice (some ⟨w.heap.size, 0, none⟩) 0 0) 0 [] := own_new w w.heap.size #[] _ 0 (Nat.le_refl _) (by decide) rfl
set_option maxRecDepth 100000 in
set_option maxHeartbeats 400000 in
theorem lclone_any (A : Option Addr) (ls : List Ln) (c : Nat) (w : World) (hr : LsRd w A ls) (hn : ls.length ≤ 4398046510976) :
    Calls Tryz.prog 20 #[.slice A ls.length c] w (NewLs w ls) := by
  rcases A with _ | ad
  · have hn0 : ls.length = 0 := by
      rcases Nat.eq_zero_or_pos ls.length with h | h
      · exact h
      · obtain ⟨b, o, h2, _⟩ := hr.2 h; cases h2
    have hl : ls = [] := List.eq_nil_of_length_eq_zero (by omega)
    subst hl
    clear hn0 hr
    go_enter Tryz.func20, Tryz.ntmps20
    have hq := fun (W : World) (n c : Nat) => Lib.run_eql_slice_nil (P := Tryz.prog) W 23 44 none n c 0 0 Tryz.underlying23
    go_wp2_with fail
    go_ret
    exact ⟨none, 0, rfl, (by repeat (first | with_reducible exact Below.refl _ _ | with_reducible assumption | with_reducible refine ExtD ?_ | with_reducible refine ExtDN ?_ | with_reducible refine ExtA ?_ | (with_reducible refine ExtR ?_ ?_; (first | omega | (dsimp only; omega) | (simp; done) | (simp; omega))) | (with_reducible refine ExtS ?_ ?_; (first | omega | (dsimp only; omega) | (simp; done) | (simp; omega))) | with_reducible refine Ext.tr ?_ (by with_reducible assumption))), World.ownsRow_nil _ _ _ _⟩
  · have hq := fun (W : World) (n c : Nat) => Lib.run_eql_slice_nil (P := Tryz.prog) W 23 44 (some ad) n c 0 0 Tryz.underlying23
    have Hn := Lib.hid hn
    have Hr : Hid (RdN w 4 (some ad) ls.length (lnCells ls)) := Lib.hid hr
    have Ho := Lib.hid (lnCells_one ls)
    go_enter Tryz.func20, Tryz.ntmps20
    go_wp2_with (at_builtin; go_must (refine wpL_copy rfl (.tmp 5) (.tmp 6) 23 rfl 44 _ 4 32 Tryz.underlying23 el_ln _ _ _ _ rfl rfl Hr.out Ho.out (by have := Hn.out; omega) (by have := Hn.out; simp only [maxLen]; omega) ?_); intro A2 c2 w2 hx2 hown2)
    go_ret
    exact ⟨A2, c2, rfl, hx2, hown2⟩
end Go.Proofs.YtjomgppbialeoaaGreat

namespace Go.Proofs.YtjomgppbialeoaaGreat
open Go.RowKit
set_option linter.unusedVariables false
set_option linter.unusedSimpArgs false
def InsPost (w : World) (base : Nat) (A : Option Addr) (n c : Nat) (xs : List Ln) (e : Ending) (w' : World) : Prop :=
  ∃ A' c', e = .returned (.slice A' xs.length c') ∧ w.grownBy w' (Value.slice A n c).ownBlock ∧ OwnLs w' base A' xs c'
theorem rd_one {w : World} {vb : Nat} {l : Ln} (hv : Blk w vb 44 (lncells l)) : RdN w 4 (some ⟨vb, 0, none⟩) 1 (lncells l).toList :=
  ⟨rfl, fun _ => ⟨vb, 0, rfl, fun j u hu => by rw [Nat.zero_add, hv.cell]; simpa using hu⟩⟩
theorem own_cap {w : World} {base : Nat} {A : Option Addr} {c : Nat} {ls : List Ln} (h : OwnLs w base A ls c) : ls.length ≤ c ∧ c ≤ 9223372036854775807 := by
  rcases h.2 with ⟨h1, h2⟩ | ⟨g, cap, cur, h1, h2, h3, h4, h5, _⟩
  · injection h1 with h3 h4 h5
    omega
  · injection h1 with h6 h7 h8
    simp only [maxLen] at h5
    omega
/-- The form of a row that is not empty. -/
theorem own_form {w : World} {base : Nat} {A : Option Addr} {c : Nat} {ls : List Ln} (h : OwnLs w base A ls c) (h0 : 0 < ls.length) : ∃ g cur, A = some ⟨g, 0, none⟩ ∧ base ≤ g ∧ Blk w g 44 cur ∧ cur.size = c * 4 ∧ ∀ j, j < ls.length * 4 → cur[j]? = (lnCells ls)[j]? := by
  rcases h.2 with ⟨h1, h2⟩ | ⟨g, cap, cur, h1, h2, h3, h4, h5, h6, h7⟩
  · omega
  · injection h1 with h8 h9 h10
    subst h8 h10
    refine ⟨g, cur, rfl, h2, h3, h6, fun j hj => ?_⟩
    rw [← h7, List.getElem?_take, if_pos hj, Array.getElem?_toList]
theorem lnCells_take (ls : List Ln) (k : Nat) : lnCells (ls.take k) = (lnCells ls).take (k * 4) := by
  induction ls generalizing k with
  | nil => simp [lnCells]
  | cons l r ih =>
    cases k with
    | zero => simp [lnCells]
    | succ k =>
      rw [List.take_succ_cons]
      show (lncells l).toList ++ lnCells (r.take k) = ((lncells l).toList ++ lnCells r).take ((k + 1) * 4)
      rw [ih, show (k + 1) * 4 = (lncells l).toList.length + k * 4 by simp [lncells]; omega, List.take_length_add_append]
theorem lnCells_drop (ls : List Ln) (k : Nat) : lnCells (ls.drop k) = (lnCells ls).drop (k * 4) := by
  induction ls generalizing k with
  | nil => simp [lnCells]
  | cons l r ih =>
    cases k with
    | zero => simp [lnCells]
    | succ k =>
      rw [List.drop_succ_cons]
      show lnCells (r.drop k) = ((lncells l).toList ++ lnCells r).drop ((k + 1) * 4)
      rw [ih, show (k + 1) * 4 = (lncells l).toList.length + k * 4 by simp [lncells]; omega, List.drop_length_add_append]
/-- The cells of a row into which a line has been laid. -/
theorem ins_cells {X V : List Value} {a : Nat} {cur : Array Value} (ha : a ≤ X.length) (hV : V.length = 4) (h1 : ∀ j, j < a → cur[j]? = X[j]?) (h2 : ∀ j, j < 4 → cur[a + j]? = V[j]?) (h3 : ∀ j, j < X.length - a → cur[a + 4 + j]? = X[a + j]?) :
    cur.toList.take (X.length + 4) = X.take a ++ V ++ X.drop a := by
  apply List.ext_getElem?
  intro j
  have hla : (X.take a).length = a := by rw [List.length_take]; omega
  rw [List.getElem?_take, Array.getElem?_toList]
  rcases Nat.lt_or_ge j a with hj | hj
  · rw [if_pos (by omega), h1 j hj, List.append_assoc, List.getElem?_append_left (by omega), List.getElem?_take, if_pos hj]
  · rcases Nat.lt_or_ge j (a + 4) with hj2 | hj2
    · obtain ⟨i, rfl⟩ : ∃ i, j = a + i := ⟨j - a, by omega⟩
      rw [if_pos (by omega), h2 i (by omega), List.append_assoc, List.getElem?_append_right (by omega), hla, List.getElem?_append_left (by omega)]
      congr 1; omega
    · obtain ⟨i, rfl⟩ : ∃ i, j = a + 4 + i := ⟨j - (a + 4), by omega⟩
      rw [List.getElem?_append_right (by rw [List.length_append]; omega), List.length_append, hla, hV, List.getElem?_drop, show a + (a + 4 + i - (a + 4)) = a + i by omega]
      by_cases hi : i < X.length - a
      · rw [if_pos (by omega), h3 i hi]
      · rw [if_neg (by omega), List.getElem?_eq_none (by omega)]
set_option maxRecDepth 100000 in
set_option maxHeartbeats 2000000 in
theorem insert_end (ls : List Ln) (l : Ln) (A : Option Addr) (c base : Nat) (w : World) (hown : OwnLs w base A ls c) (hlen : ls.length ≤ 16) (vb : Nat) (hv : Blk w vb 44 (lncells l)) (hbase : base ≤ w.heap.size) :
    Calls Tryz.prog 72 #[.slice A ls.length c, .int .i64 (ls.length : Nat), .slice (some ⟨vb, 0, none⟩) 1 1] w (InsPost w base A ls.length c (ls ++ [l])) := by
  have Hown : Hid (w.ownsRow base 44 4 (.slice A ls.length c) ls.length (lnCells ls)) := Lib.hid hown
  have Hr := Lib.hid (rd_one hv)
  have H1 := Lib.hid (ln_one l)
  have Hc : Hid (lnCells ls ++ (lncells l).toList = lnCells (ls ++ [l])) := Lib.hid (by rw [lnCells_app]; simp [lnCells])
  have hnc := own_cap hown
  have HN : Hid ((ls ++ [l]).length = ls.length + 1) := Lib.hid (by simp)
  clear hown hv
  generalize ls.length = n at *
  have h2 : (n : Int) ≤ (c : Int) := by omega
  go_enter Tryz.func72, Tryz.ntmps72
  go_wp2_with (at_builtin; go_must (refine wpL_append rfl (.tmp 23) (.tmp 24) 23 rfl base 44 _ 4 32 Tryz.underlying23 el_ln (.slice A n c) _ _ rfl Hown.out _ _ _ _ rfl Hr.out H1.out _ _ rfl Hc.out (by simp only [maxLen]; omega) (by omega) hbase ?_); intro v' w' hown' hg' hb')
  all_goals
    go_ret
    obtain ⟨A', c', rfl⟩ := own_slice hown'
    refine ⟨A', c', by rw [HN.out]; rfl, by first | exact hg' | (rename_i h; rw [h] at hg'; exact hg'), ?_⟩
    unfold OwnLs
    rw [HN.out]
    exact hown'
end Go.Proofs.YtjomgppbialeoaaGreat

namespace Go.Proofs.YtjomgppbialeoaaGreat
open Go.RowKit
set_option linter.unusedVariables false
set_option linter.unusedSimpArgs false
theorem sz_ln : (Tryz.prog.info? 44).map (·.size) = some 4 := by kernel_rfl
theorem blk_shape {w : World} {g : Nat} {t : TypeId} {cs : Array Value} (h : Blk w g t cs) : w.shape? g = some (t, cs.size) := by
  unfold World.shape?; rw [h]
theorem lnCells_one1 (l : Ln) : lnCells [l] = (lncells l).toList := by simp [lnCells]
theorem blk_setOut {g b : Nat} {t : TypeId} {cs : Array Value} (hne : g ≠ b) : ∀ (vs : List Value) (o : Nat) (w : World), Blk w g t cs → Blk (w.setCells b o vs) g t cs
  | [], _, _, h => h
  | v :: r, o, w, h => blk_setOut hne r (o + 1) _ (BlkF (p := ⟨b, o, none⟩) hne h)
theorem grown_setCells {w : World} {b : Nat} : ∀ (vs : List Value) (o : Nat) (w' : World), w.grownBy w' (some b) → w.grownBy (w'.setCells b o vs) (some b)
  | [], _, _, h => h
  | v :: r, o, w', h => grown_setCells r (o + 1) _ (grown_set h v)
theorem own_of_cells {w : World} {base g c : Nat} {ls : List Ln} {cur : Array Value} (hg : base ≤ g) (hb : Blk w g 44 cur) (hc : ls.length ≤ c) (hm : c ≤ maxLen) (hs : cur.size = c * 4) (h : cur.toList.take (ls.length * 4) = lnCells ls) : OwnLs w base (some ⟨g, 0, none⟩) ls c :=
  ⟨lnCells_len ls, .inr ⟨g, c, cur, rfl, hg, hb, hc, hm, hs, h⟩⟩
/-- A row with cells laid over it, as a function. -/
def ov : Array Value → Nat → List Value → Array Value
  | cur, _, [] => cur
  | cur, o, v :: r => ov (cur.setIfInBounds o v) (o + 1) r
theorem BlkC {g : Nat} {t : TypeId} : ∀ {vs : List Value} {o : Nat} {w : World} {cur : Array Value}, Blk w g t cur → Blk (w.setCells g o vs) g t (ov cur o vs)
  | [], _, _, _, h => h
  | v :: r, o, w, cur, h => BlkC (vs := r) (o := o + 1) (w := w.setCell ⟨g, o, none⟩ v) (BlkS h)
theorem over_ov : ∀ (vs : List Value) (o : Nat) (cur : Array Value), o + vs.length ≤ cur.size → over cur o vs (ov cur o vs)
  | [], o, cur, _ => ⟨rfl, fun j => by rw [if_neg (by rw [List.length_nil]; omega)]; rfl⟩
  | v :: r, o, cur, hl => by
    simp only [List.length_cons] at hl
    obtain ⟨h2, h3⟩ := over_ov r (o + 1) (cur.setIfInBounds o v) (by simp; omega)
    refine ⟨by rw [ov, h2]; simp, fun j => ?_⟩
    rw [ov, h3 j]
    by_cases hj : o + 1 ≤ j ∧ j < o + 1 + r.length
    · rw [if_pos hj, if_pos (by rw [List.length_cons]; omega), show j - o = (j - (o + 1)) + 1 by omega, List.getElem?_cons_succ]
    · rw [if_neg hj]
      by_cases hjo : j = o
      · subst hjo
        rw [if_pos (by rw [List.length_cons]; omega), Nat.sub_self, List.getElem?_cons_zero, Array.getElem?_setIfInBounds]
        rw [if_pos rfl, if_pos (by omega)]
      · rw [if_neg (by rw [List.length_cons]; omega), Array.getElem?_setIfInBounds, if_neg (by omega)]
/-- Over a row: a line at its place, the rest one place on. -/
theorem ins_over {ls : List Ln} {l : Ln} {k : Nat} {cur cur1 cur2 : Array Value} (hk : k < ls.length) (h0 : ∀ j, j < k * 4 → cur[j]? = (lnCells ls)[j]?)
    (h1 : over cur ((k + 1) * 4) ((lnCells ls).drop (k * 4)) cur1) (h2 : over cur1 (k * 4) (lncells l).toList cur2) : cur2.toList.take ((ls.take k ++ l :: ls.drop k).length * 4) = lnCells (ls.take k ++ l :: ls.drop k) := by
  have hX := lnCells_len ls
  have hV : (lncells l).toList.length = 4 := rfl
  have hd : ((lnCells ls).drop (k * 4)).length = ls.length * 4 - k * 4 := by rw [List.length_drop, hX]
  have e1 : (ls.take k ++ l :: ls.drop k).length * 4 = (lnCells ls).length + 4 := by rw [hX]; simp; omega
  have e2 : lnCells (ls.take k ++ l :: ls.drop k) = (lnCells ls).take (k * 4) ++ (lncells l).toList ++ (lnCells ls).drop (k * 4) := by
    rw [show ls.take k ++ l :: ls.drop k = ls.take k ++ ([l] ++ ls.drop k) by simp, lnCells_app, lnCells_app, lnCells_take, lnCells_drop, lnCells_one1, List.append_assoc]
  rw [e1, e2]
  refine ins_cells (by omega) hV (fun j hj => ?_) (fun j hj => ?_) (fun j hj => ?_)
  · rw [h2.2, if_neg (by omega), h1.2, if_neg (by omega), h0 j hj]
  · rw [h2.2, if_pos (by rw [hV]; omega), show k * 4 + j - k * 4 = j by omega]
  · rw [h2.2, if_neg (by rw [hV]; omega), h1.2, if_pos (by rw [hd]; omega), List.getElem?_drop]
    congr 1; omega
theorem over_rev {ls : List Ln} {l : Ln} {k : Nat} {cur cur1 cur2 : Array Value} (hk : k < ls.length) (h0 : ∀ j, j < k * 4 → cur[j]? = (lnCells ls)[j]?)
    (h2 : over cur (k * 4) (lncells l).toList cur1) (h1 : over cur1 ((k + 1) * 4) ((lnCells ls).drop (k * 4)) cur2) : cur2.toList.take ((ls.take k ++ l :: ls.drop k).length * 4) = lnCells (ls.take k ++ l :: ls.drop k) := by
  have hX := lnCells_len ls
  have hV : (lncells l).toList.length = 4 := rfl
  have hd : ((lnCells ls).drop (k * 4)).length = ls.length * 4 - k * 4 := by rw [List.length_drop, hX]
  have e1 : (ls.take k ++ l :: ls.drop k).length * 4 = (lnCells ls).length + 4 := by rw [hX]; simp; omega
  have e2 : lnCells (ls.take k ++ l :: ls.drop k) = (lnCells ls).take (k * 4) ++ (lncells l).toList ++ (lnCells ls).drop (k * 4) := by
    rw [show ls.take k ++ l :: ls.drop k = ls.take k ++ ([l] ++ ls.drop k) by simp, lnCells_app, lnCells_app, lnCells_take, lnCells_drop, lnCells_one1, List.append_assoc]
  rw [e1, e2]
  refine ins_cells (by omega) hV (fun j hj => ?_) (fun j hj => ?_) (fun j hj => ?_)
  · rw [h1.2, if_neg (by omega), h2.2, if_neg (by omega), h0 j hj]
  · rw [h1.2, if_neg (by omega), h2.2, if_pos (by rw [hV]; omega), show k * 4 + j - k * 4 = j by omega]
  · rw [h1.2, if_pos (by rw [hd]; omega), List.getElem?_drop]
    congr 1; omega
set_option maxRecDepth 100000 in
set_option maxHeartbeats 4000000 in
theorem insert_room (ls : List Ln) (l : Ln) (k : Nat) (A : Option Addr) (c base : Nat) (w : World) (hown : OwnLs w base A ls c) (hlen : ls.length ≤ 16) (hk : k < ls.length) (hroom : ls.length + 1 ≤ c) (vb : Nat) (hv : Blk w vb 44 (lncells l)) (hvb : some vb ≠ (Value.slice A ls.length c).ownBlock) :
    Calls Tryz.prog 72 #[.slice A ls.length c, .int .i64 (k : Nat), .slice (some ⟨vb, 0, none⟩) 1 1] w (InsPost w base A ls.length c (ls.take k ++ l :: ls.drop k)) := by
  have hnc := own_cap hown
  obtain ⟨g, cur, rfl, hg, hb, hs, hcur⟩ := own_form hown (by omega)
  have hne : vb ≠ g := fun h => hvb (by rw [h]; rfl)
  have hX := lnCells_len ls
  have hdl : ((lnCells ls).drop (k * 4)).length = (ls.length - k) * 4 := by rw [List.length_drop, hX]; omega
  have hov : ∀ lb cb, (callFunc 79 #[.slice (some ⟨vb, 0, none⟩) 1 1, .slice (some ⟨g, (k + 1) * 4, none⟩) lb cb]).run Tryz.prog w = .ok (.value (.bool false)) w := fun lb cb => by
    rw [run_callFunc_extern Tryz.func79 (by kernel_rfl) (by kernel_rfl) (by kernel_rfl) (e := Extern.SlicesOverlaps.overlaps #[23, 23] #[4]) (by kernel_rfl),
      Lib.run_overlaps_apart w 23 4 44 Tryz.underlying23 4 (fun w => by kernel_rfl) ⟨vb, 0, none⟩ ⟨g, (k + 1) * 4, none⟩ 1 1 lb cb hne _ _ _ _ (blk_shape hv) (blk_shape hb) (by omega) (hv.frozen _) (hv.frozen _)]
    rfl
  have hcp1 : ∀ ty dc sc, (Builtin.copy_ #[23, 23] ty #[.slice (some ⟨g, (k + 1) * 4, none⟩) (ls.length - k) dc, .slice (some ⟨g, k * 4, none⟩) (ls.length + 1 - k) sc]).run Tryz.prog w.drew = .ok (goInt ((ls.length - k : Nat))) (w.drew.setCells g ((k + 1) * 4) ((lnCells ls).drop (k * 4))) := fun ty dc sc =>
    run_copyN 23 ty 44 g ((k + 1) * 4) (ls.length - k) dc ⟨g, k * 4, none⟩ (ls.length + 1 - k) sc ((lnCells ls).drop (k * 4)) 4 (ls.length - k) Tryz.underlying23 sz_ln (by simp only [Nat.min_def]; split <;> omega) hdl
      (fun j v hj => by
        rw [Addr.add_lit]
        show w.cell? _ = _
        rw [hb.cell, hcur _ (by have := (List.getElem?_eq_some_iff.1 hj).1; rw [hdl] at this; omega)]
        rwa [List.getElem?_drop] at hj)
      cur 44 (BlkD hb) (by rw [hdl, hs]; omega) (fun v hv => lnCells_one ls v (List.mem_of_mem_drop hv))
  obtain ⟨cur1, hb1, ho1⟩ := setCells_blk ((lnCells ls).drop (k * 4)) ((k + 1) * 4) w.drew cur (BlkD hb) (by rw [hdl, hs]; omega)
  have hg1 := grown_setCells (w := w) ((lnCells ls).drop (k * 4)) ((k + 1) * 4) w.drew (GrD (World.grownBy.refl w (some g)))
  have hv1 := blk_setOut hne ((lnCells ls).drop (k * 4)) ((k + 1) * 4) w.drew (BlkD hv)
  obtain ⟨W1, hW1⟩ : ∃ W1, W1 = w.drew.setCells g ((k + 1) * 4) ((lnCells ls).drop (k * 4)) := ⟨_, rfl⟩
  rw [← hW1] at hcp1 hb1 hg1 hv1
  clear hW1
  have hs1 : cur1.size = c * 4 := by rw [ho1.1, hs]
  have hcp2 : ∀ ty dc, (Builtin.copy_ #[23, 23] ty #[.slice (some ⟨g, k * 4, none⟩) (ls.length + 1 - k) dc, .slice (some ⟨vb, 0, none⟩) 1 1]).run Tryz.prog W1 = .ok (goInt 1) (W1.setCells g (k * 4) (lncells l).toList) := fun ty dc =>
    run_copyN 23 ty 44 g (k * 4) (ls.length + 1 - k) dc ⟨vb, 0, none⟩ 1 1 (lncells l).toList 4 1 Tryz.underlying23 sz_ln (by simp only [Nat.min_def]; split <;> omega) rfl
      (fun j v hj => by
        rw [Addr.add_lit, Nat.zero_add, hv1.cell]
        simpa using hj)
      cur1 44 hb1 (by rw [hs1]; show k * 4 + 4 ≤ _; omega) (ln_one l)
  obtain ⟨cur2, hb2, ho2⟩ := setCells_blk (lncells l).toList (k * 4) W1 cur1 hb1 (by rw [hs1]; show k * 4 + 4 ≤ _; omega)
  have HG : Hid (w.grownBy (W1.setCells g (k * 4) (lncells l).toList) (some g)) := Lib.hid (grown_setCells (lncells l).toList (k * 4) W1 hg1)
  have HL : Hid ((ls.take k ++ l :: ls.drop k).length = ls.length + 1) := Lib.hid (by simp; omega)
  have HO : Hid (OwnLs (W1.setCells g (k * 4) (lncells l).toList) base (some ⟨g, 0, none⟩) (ls.take k ++ l :: ls.drop k) c) := Lib.hid (own_of_cells hg hb2 (by rw [HL.out]; exact hroom) (by simp only [maxLen]; omega) (by rw [ho2.1, hs1]) (ins_over hk (fun j hj => hcur j (by omega)) ho1 ho2))
  have hw1 : IntKind.i64.wrap ((k : Int) + 1) = (k : Int) + 1 := by rw [IntKind.wrap_i64]; omega
  have hz2 : ¬ ((k : Int) = (ls.length : Int)) := by omega
  have hb3 : (k : Int) ≤ (ls.length : Int) := by omega
  have hb4 : ¬ (c = k) := by omega
  have hb5 : ¬ (c = k + 1) := by omega
  have hb6 : (0 : Int) ≤ (k : Int) + 1 := by omega
  have hb7 : ((k : Int) + 1).toNat = k + 1 := by omega
  have hk2 : k ≤ ls.length := by omega
  have hb8 : (k : Int) ≤ (ls.length : Int) + 1 := by omega
  have mixed : Tryz.prog.follows Departure.mixedOrders = true := by kernel_rfl
  clear hown hb hcur hX hdl hb1 hg1 hv1 ho1 ho2 hb2 hv hvb hs1 hs
  generalize (lnCells ls).drop (k * 4) = DR at *
  generalize ls.length = n at *
  go_enter Tryz.func72, Tryz.ntmps72
  go_wp2_with (simp only [hov])
  go_region_law_o (refine step_copy_runI rfl (.tmp 73) (.tmp 76) 23 23 rfl _ _ (by simp [Act.eval, Act.put]) (by simp [Act.eval, Act.put]) (hcp1 _ _ _) ?_)
  go_wp2_with (at_builtin; refine wpList_copy_runI _ rfl _ _ 23 23 rfl _ _ rfl rfl (hcp2 _ _) ?_)
  go_ret
  exact ⟨some ⟨g, 0, none⟩, c, by rw [HL.out]; rfl, HG.out, HO.out⟩
/-- The block of lines is not g. -/
def NotOwn (A : Option Addr) (g : Nat) : Prop := ∀ n c, (Value.slice A n c).ownBlock ≠ some g
theorem own_apart {w : World} {base g c : Nat} {A : Option Addr} {ls : List Ln} {cs : Array Value} (h : OwnLs w base A ls c) (hb : Blk w g 25 cs) : NotOwn A g := by
  intro n c2
  rcases h.2 with ⟨h1, h2⟩ | ⟨g', cap, cur, h1, h2, h3, _⟩
  · injection h1 with h3 h4 h5
    subst h3
    intro hc; cases hc
  · injection h1 with h5 h6 h7
    subst h5
    intro he
    obtain rfl : g' = g := Option.some.inj he
    have h4 : w.heap[g']? = some (.cells cur 44) := h3
    have h5 : w.heap[g']? = some (.cells cs 25) := hb
    rw [h5] at h4
    cases h4
theorem OwnSt {w : World} {base g c i : Nat} {u : Value} {A : Option Addr} {ls : List Ln} (hne : NotOwn A g) (h : OwnLs w base A ls c) : OwnLs (w.setCell ⟨g, i, none⟩ u) base A ls c :=
  World.ownsRow.kept h (grown_set (World.grownBy.refl w (some g)) u) (.inr (hne _ _))
theorem OwnA {w : World} {base c : Nat} {o : Obj} {A : Option Addr} {ls : List Ln} (h : OwnLs w base A ls c) : OwnLs (w.alloc o) base A ls c := World.ownsRow.alloc h o
theorem OwnD {w : World} {base c : Nat} {A : Option Addr} {ls : List Ln} (h : OwnLs w base A ls c) : OwnLs w.drew base A ls c := h
theorem OwnDN {w : World} {base c n : Nat} {A : Option Addr} {ls : List Ln} (h : OwnLs w base A ls c) : OwnLs (w.drewN n) base A ls c := h
theorem own_less {w : World} {b1 b2 c : Nat} {A : Option Addr} {ls : List Ln} (h : OwnLs w b1 A ls c) (hb : b2 ≤ b1) : OwnLs w b2 A ls c := by
  refine ⟨h.1, ?_⟩
  rcases h.2 with h1 | ⟨g, cap, cur, h1, h2, h3⟩
  · exact .inl h1
  · exact .inr ⟨g, cap, cur, h1, Nat.le_trans hb h2, h3⟩
theorem st_size' (o s p u t : Int) (A : Option Addr) (n c : Nat) (pd rf ev rd sm : Int) (who : ByteArray) : (#[.int .i64 o, .int .i64 s, .int .i64 p, .int .i64 u, .int .i64 t, .slice A n c, .int .i64 pd, .int .i64 rf, .int .i64 ev, .int .i64 rd, .int .i64 sm, .string who] : Array Value).size = 12 := rfl
theorem st_one' (o s p u t : Int) (A : Option Addr) (n c : Nat) (pd rf ev rd sm : Int) (who : ByteArray) : ∀ v ∈ (#[.int .i64 o, .int .i64 s, .int .i64 p, .int .i64 u, .int .i64 t, .slice A n c, .int .i64 pd, .int .i64 rf, .int .i64 ev, .int .i64 rd, .int .i64 sm, .string who] : Array Value).toList, v.oneCell' = true := by
  intro v hv; simp at hv; rcases hv with rfl | rfl | rfl | rfl | rfl | rfl | rfl | rfl | rfl | rfl | rfl | rfl <;> rfl
theorem GrRow {a w : World} {g : Nat} {ds : Array Value} (h : a.grownBy w (some g)) : a.grownBy (w.setRow g ds) (some g) :=
  ⟨h.os, h.tape, h.output, by simpa [World.setRow] using h.size, fun k hk hne => by
    have := h.block k hk hne
    simp only [World.setRow, Array.getElem?_modify]
    rw [if_neg (by intro hc; exact hne (by rw [hc]))]
    exact this⟩
theorem OwnRw {w : World} {base g c : Nat} {ds : Array Value} {A : Option Addr} {ls : List Ln} (hne : NotOwn A g) (h : OwnLs w base A ls c) : OwnLs (w.setRow g ds) base A ls c :=
  World.ownsRow.kept h (GrRow (World.grownBy.refl w (some g))) (.inr (hne _ _))
def evCells (es : List Ev) : List Value := es.flatMap fun e => (evcells e).toList
/-- A slice of events that reads as es. -/
def EsRd (w : World) (B : Option Addr) (es : List Ev) : Prop := RdN w 10 B es.length (evCells es)
theorem EsRd.ext {w w' : World} {B : Option Addr} {es : List Ev} (h : EsRd w B es) (hx : Ext w w') : EsRd w' B es := RdN.ext h hx
theorem evCells_len (es : List Ev) : (evCells es).length = es.length * 10 := by
  induction es with
  | nil => rfl
  | cons h r ih => simp only [evCells, List.flatMap_cons, List.length_append] at ih ⊢; rw [ih]; simp [evcells]; omega
theorem evCells_at (es : List Ev) (k j : Nat) (e : Ev) (hk : es[k]? = some e) (hj : j < 10) : (evCells es)[k * 10 + j]? = (evcells e).toList[j]? := by
  induction es generalizing k with
  | nil => simp at hk
  | cons g r ih =>
    have e1 : evCells (g :: r) = (evcells g).toList ++ evCells r := by simp [evCells]
    rw [e1]
    cases k with
    | zero =>
      simp at hk
      subst hk
      rw [List.getElem?_append_left (by simp [evcells]; omega)]
      simp
    | succ k =>
      rw [List.getElem?_append_right (by simp [evcells]; omega)]
      have : (k + 1) * 10 + j - (evcells g).toList.length = k * 10 + j := by simp [evcells]; omega
      rw [this]
      exact ih k (by simpa using hk)
theorem es_at {w : World} {B : Option Addr} {k : Nat} {es : List Ev} (h : EsRd w B es) (hk : k < es.length) :
    ∃ b o, B = some ⟨b, o, none⟩ ∧ w.rangeAt b (o + k * 10) (evcells es[k]).toList := by
  obtain ⟨b, o, e, hc⟩ := h.2 (by omega)
  have hg : es[k]? = some es[k] := List.getElem?_eq_getElem hk
  refine ⟨b, o, e, fun j v hv => ?_⟩
  have hj : j < 10 := by
    have := (List.getElem?_eq_some_iff.1 hv).1
    simpa [evcells] using this
  rw [Nat.add_assoc]
  exact hc _ _ (by rw [evCells_at es k j _ hg hj]; exact hv)
end Go.Proofs.YtjomgppbialeoaaGreat
