/-
  The walks of order.Apply (whole), order.Fold, order.Empty.
-/
/-
  The walk of the reference's Copy of a state.
-/
/-
  The walk of the laws' head: one order from the first event to the last.
-/
/-
  The walk of the reference's Same, at states that are the same.
-/
import Derived.Test.YtlpjhnecihhkfaaOrdAd
namespace Go.Proofs.Ytlpjhnecihhkfaa
open Go.RowKit
set_option linter.unusedVariables false
set_option linter.unusedSimpArgs false
theorem judge_valid {s : St} {e : Ev} (h : judge s e ≠ 1) : VOk s := by
  cases hv : validB s with
  | true => exact valid_iff.1 hv
  | false => exact absurd (by unfold judge; rw [if_pos (.inl hv)]) h
theorem apply_any (s : St) (e : Ev) (A : Option Addr) (c : Nat) (w : World) (hr : LsRd w A s.lines) (hn : s.lines.length ≤ 4398046510976) (hw1 : s.who.size ≤ 4611686018427387904) (hw2 : e.who.size ≤ 4611686018427387904) (hw3 : e.note.size ≤ 4611686018427387904) :
    Calls Try.prog 27 #[.agg (stcells s A c), .agg (evcells e)] w (ApPost w (apply s e).1 (apply s e).2) := by
  unfold apply
  by_cases h1 : judge s e = 1 ∨ judge s e = 2
  · rw [if_pos h1]; exact apply_a s e A c w hr hn hw1 hw2 hw3 h1
  · rw [if_neg h1]
    by_cases h0 : judge s e = 0
    · rw [if_neg (by omega)]; exact apply_c s e A c w hr hn hw1 hw2 hw3 h0
    · rw [if_pos (by omega)]
      have hv := judge_valid (s := s) (e := e) (by omega)
      have h2 := hv.events
      have h3 := hv.refused
      exact apply_b s e A c w hr hn hw1 hw2 hw3 (by omega) h2 (by omega)
/-- The lengths of a state. -/
def StSm (s : St) : Prop := s.lines.length ≤ 4398046510976 ∧ s.who.size ≤ 4611686018427387904
def EvSm (e : Ev) : Prop := e.who.size ≤ 4611686018427387904 ∧ e.note.size ≤ 4611686018427387904
theorem sm_of_valid {s : St} (h : VOk s) : StSm s := by
  have h1 := h.len
  have h2 := h.named
  simp only [namedB, and_t, decide_eq_true_eq] at h2
  exact ⟨by omega, by omega⟩
theorem sm_apply {s : St} (e : Ev) (h : StSm s) : StSm (apply s e).1 := by
  by_cases h1 : judge s e = 1
  · unfold apply; rw [if_pos (.inl h1)]; exact h
  · exact sm_of_valid (valid_apply (judge_valid h1))
theorem fold_take {s : St} {es : List Ev} {k : Nat} (hk : k < es.length) : fold s (es.take (k + 1)) = (apply (fold s (es.take k)) es[k]).1 := by
  unfold fold
  rw [List.take_succ_eq_append_getElem hk, List.foldl_append]
  rfl
theorem sm_fold {s : St} (es : List Ev) (h : StSm s) : StSm (fold s es) := by
  unfold fold
  induction es generalizing s with
  | nil => exact h
  | cons e r ih => exact ih (sm_apply e h)
def evCells (es : List Ev) : List Value := es.flatMap fun e => (evcells e).toList
/-- A slice of events that reads as es. -/
def EsRd (w : World) (B : Option Addr) (es : List Ev) : Prop := RdN w 10 B es.length (evCells es)
theorem EsRd.ext {w w' : World} {B : Option Addr} {es : List Ev} (h : EsRd w B es) (hx : Ext w w') : EsRd w' B es := RdN.ext h hx
theorem evCells_len (es : List Ev) : (evCells es).length = es.length * 10 := by
  induction es with
  | nil => rfl
  | cons h r ih => simp only [evCells, List.flatMap_cons, List.length_append] at ih ⊢; rw [ih]; simp [evcells]; omega
theorem evCells_at (es : List Ev) (k j : Nat) (e : Ev) (hk : es[k]? = some e) (hj : j < 10) : (evCells es)[k * 10 + j]? = (evcells e).toList[j]? := by
  induction es generalizing k with
  | nil => simp at hk
  | cons g r ih =>
    have e1 : evCells (g :: r) = (evcells g).toList ++ evCells r := by simp [evCells]
    rw [e1]
    cases k with
    | zero =>
      simp at hk
      subst hk
      rw [List.getElem?_append_left (by simp [evcells]; omega)]
      simp
    | succ k =>
      rw [List.getElem?_append_right (by simp [evcells]; omega)]
      have : (k + 1) * 10 + j - (evcells g).toList.length = k * 10 + j := by simp [evcells]; omega
      rw [this]
      exact ih k (by simpa using hk)
theorem es_at {w : World} {B : Option Addr} {k : Nat} {es : List Ev} (h : EsRd w B es) (hk : k < es.length) :
    ∃ b o, B = some ⟨b, o, none⟩ ∧ w.rangeAt b (o + k * 10) (evcells es[k]).toList := by
  obtain ⟨b, o, e, hc⟩ := h.2 (by omega)
  have hg : es[k]? = some es[k] := List.getElem?_eq_getElem hk
  refine ⟨b, o, e, fun j v hv => ?_⟩
  have hj : j < 10 := by
    have := (List.getElem?_eq_some_iff.1 hv).1
    simpa [evcells] using this
  rw [Nat.add_assoc]
  exact hc _ _ (by rw [evCells_at es k j _ hg hj]; exact hv)
def noSt (id : Int) : St := ⟨id, 0, 0, 0, 0, [], 0, 0, 0, 0, 0, ⟨#[]⟩⟩
theorem empty_any (id : Int) (w : World) : Calls Try.prog 14 #[.int .i64 id] w fun e w' => e = .returned (.agg (stcells (noSt id) none 0)) ∧ Ext w w' := by
  unfold stcells noSt
  go_enter Try.func14, Try.ntmps14
  go_wp2_with fail
  refine bodyPost_ret (res_row rfl _ _ _ 25 _ 12 rfl (BlkN rfl) st_wide rfl) rfl ?_
  exact ⟨rfl, exA⟩
def FoPost (w : World) (s2 : St) (e' : Ending) (w' : World) : Prop := ∃ A' c', e' = .returned (.agg (stcells s2 A' c')) ∧ Ext w w' ∧ OwnLs w' w.heap.size A' s2.lines c'
def FoR (w : World) (s : St) (es : List Ev) (c13 : Value) (wr : World) : Prop :=
  ∃ (k : Nat) (A : Option Addr) (c : Nat), c13 = .int .i64 (k : Nat) ∧ k ≤ es.length ∧ Ext w wr ∧ Blk wr w.heap.size 25 (stcells (fold s (es.take k)) A c) ∧ Blk wr (w.heap.size + 1) 25 #[.int .i64 0, .int .i64 0, .int .i64 0, .int .i64 0, .int .i64 0, .slice none 0 0, .int .i64 0, .int .i64 0, .int .i64 0, .int .i64 0, .int .i64 0, .string ⟨#[]⟩] ∧ OwnLs wr w.heap.size A (fold s (es.take k)).lines c
theorem alloc_ev (w : World) : (Instr.alloc 28 true (.tuple #[])).run Try.prog w = .ok (.pointer (some ⟨w.heap.size, 0, none⟩)) (w.alloc (.cells #[.int .i64 0, .int .i64 0, .int .i64 0, .int .i64 0, .int .i64 0, .int .i64 0, .int .i64 0, .string ⟨#[]⟩, .int .i64 0, .string ⟨#[]⟩] 28)) := by kernel_rfl
set_option maxRecDepth 100000 in
set_option maxHeartbeats 4000000 in
theorem fold_any (s : St) (es : List Ev) (A B : Option Addr) (c cb : Nat) (w : World) (hr : LsRd w A s.lines) (hre : EsRd w B es) (hs : StSm s) (hes : ∀ e ∈ es, EvSm e) (hen : es.length ≤ 4611686018427387904) :
    Calls Try.prog 28 #[.agg (stcells s A c), .slice B es.length cb] w (FoPost w (fold s es)) := by
  have KC := Lib.hid fun W (h : LsRd W A s.lines) => clone_any A s.lines c W h hs.1
  have Hs := Lib.hid hs
  have Hes := Lib.hid hes
  unfold NewLs at KC
  obtain ⟨n, hnn⟩ : ∃ n, n = es.length := ⟨_, rfl⟩
  rw [← hnn] at hen ⊢
  have Hn := Lib.hid hnn
  clear hnn hs hes
  unfold FoPost
  have Hst := Lib.hid (rfl : stcells s A c = _)
  rw [stcells]
  go_enter Try.func28, Try.ntmps28
  go_wp2_with (first | (go_at_call 47; (with_reducible refine (KC.out _ (hr.ext exA)).mono ?_); rintro e w1 ⟨A1, c1, rfl, hx1, ho1⟩; have b1 := BlkE (BlkA (BlkN rfl)) hx1; have b2 : Blk w1 (w.heap.size + 1) 25 #[.int .i64 0, .int .i64 0, .int .i64 0, .int .i64 0, .int .i64 0, .slice none 0 0, .int .i64 0, .int .i64 0, .int .i64 0, .int .i64 0, .int .i64 0, .string ⟨#[]⟩] := bkV; have z1 := b1.cell 5; have z2 := b1.frozen 5))
  go_loopw [13] (fun c13 wr => FoR w s es c13 wr) (fun c13 _ => n - (intOf c13).toNat)
  case atStart => exact ⟨0, A1, c1, rfl, by omega, exA, Blk_eq (BlkS b1) rfl, bkV, own_less (OwnSt (own_apart ho1 b1) ho1) (by (first | omega | (dsimp only; omega) | (simp; done) | (simp; omega)))⟩
  case round =>
    obtain ⟨k, A2, c2, rfl, hk, hx, hb, hb2, ho⟩ := hrel
    rw [← Hn.out] at hk
    clear b1 b2 z1 z2 ho1
    by_cases hlt : k < n
    · obtain ⟨b, o, rfl, hc⟩ := es_at hre (show k < es.length by rw [← Hn.out]; exact hlt)
      have Hc := Lib.hid (range_ext hc hx)
      have hft := fold_take (s := s) (show k < es.length by rw [← Hn.out]; exact hlt)
      have hse := Hes.out _ (List.getElem_mem (show k < es.length by rw [← Hn.out]; exact hlt))
      have hss := sm_fold (es.take k) Hs.out
      clear hc
      generalize es[k]'(by rw [← Hn.out]; exact hlt) = e at *
      generalize hsk : fold s (es.take k) = sk at *
      clear hsk
      have KA := Lib.hid fun W (h : LsRd W A2 sk.lines) => apply_any sk e A2 c2 W h hss.1 hss.2 hse.1 hse.2
      generalize hs3 : (apply sk e).1 = s3 at *
      generalize (apply sk e).2 = why at *
      clear hs3 hss hse
      have Hft := Lib.hid hft
      clear hft
      have Ho := Lib.hid ho
      have hap := own_apart ho hb
      have hal := alloc_ev
      have hN : w.heap.size < wr.heap.size := hb.lt
      have hB : ∀ ob, Blk (wr.alloc ob) w.heap.size 25 (stcells sk A2 c2) := fun ob => BlkA hb
      obtain ⟨ek, eo, ei, eq, ep, ec, et, ew, em, en⟩ := e
      unfold evcells at Hc KA
      unfold ApPost at KA
      dsimp only at Hc KA
      have e0 : wr.cell? ⟨b, o + k * 10, none⟩ = some (.int .i64 ek) := Hc.out 0 _ rfl
      have e1 : wr.cell? ⟨b, o + k * 10 + 1, none⟩ = some (.int .i64 eo) := Hc.out 1 _ rfl
      have e2 : wr.cell? ⟨b, o + k * 10 + 2, none⟩ = some (.int .i64 ei) := Hc.out 2 _ rfl
      have e3 : wr.cell? ⟨b, o + k * 10 + 3, none⟩ = some (.int .i64 eq) := Hc.out 3 _ rfl
      have e4 : wr.cell? ⟨b, o + k * 10 + 4, none⟩ = some (.int .i64 ep) := Hc.out 4 _ rfl
      have e5 : wr.cell? ⟨b, o + k * 10 + 5, none⟩ = some (.int .i64 ec) := Hc.out 5 _ rfl
      have e6 : wr.cell? ⟨b, o + k * 10 + 6, none⟩ = some (.int .i64 et) := Hc.out 6 _ rfl
      have e7 : wr.cell? ⟨b, o + k * 10 + 7, none⟩ = some (.string ew) := Hc.out 7 _ rfl
      have e8 : wr.cell? ⟨b, o + k * 10 + 8, none⟩ = some (.int .i64 em) := Hc.out 8 _ rfl
      have e9 : wr.cell? ⟨b, o + k * 10 + 9, none⟩ = some (.string en) := Hc.out 9 _ rfl
      go_wp2_with (first
        | (with_reducible refine wpL_load_row rfl 25 (.tmp 2) rfl _ 25 _ 12 rfl (hB _) st_wide (stc_size _ _ _) ?_)
        | (go_at_call 27; (with_reducible refine (KA.out _ (Ho.out.rd.ext exA)).mono ?_); rintro e2 w2 ⟨A3, c3, rfl, hx2, ho2⟩; have q1 := BlkE (hB _) hx2; have q2 : Blk w2 (w.heap.size + 1) 25 #[.int .i64 0, .int .i64 0, .int .i64 0, .int .i64 0, .int .i64 0, .slice none 0 0, .int .i64 0, .int .i64 0, .int .i64 0, .int .i64 0, .int .i64 0, .string ⟨#[]⟩] := bkV)
        | (with_reducible refine wpL_store_row rfl 25 (.tmp 2) (.tmp 21) rfl _ 25 _ _ rfl rfl q1 ((stc_size _ _ _).trans (stc_size _ _ _).symm) (stc_one _ _ _) 12 st_wide (stc_size _ _ _) ?_))
      refine And.intro ?_ ?_
      · refine ⟨k + 1, A3, c3, by go_num, by have := Hn.out; omega, exA, ?_, bkA, ?_⟩
        · rw [Hft.out]; exact Blk.setRow_ q1
        · rw [Hft.out]; exact own_less (OwnRw (own_apart ho2 q1) ho2) (by (first | omega | (dsimp only; omega) | (simp; done) | (simp; omega)))
      · simp [intOf]; omega
    · obtain rfl : k = n := by omega
      have htk : es.take k = es := List.take_of_length_le (by have := Hn.out; omega)
      rw [htk] at hb ho
      have hap := own_apart ho hb2
      go_wp2_with (first
        | (with_reducible refine wpL_load_row rfl 25 (.tmp 2) rfl _ 25 _ 12 rfl hb st_wide (stc_size _ _ _) ?_)
        | (with_reducible refine wpL_store_row rfl 25 (.tmp 4) (.tmp 24) rfl _ 25 _ _ rfl rfl hb2 ((stc_size _ _ _).trans (st_size' _ _ _ _ _ _ _ _ _ _ _ _ _ _).symm) (stc_one _ _ _) 12 st_wide (stc_size _ _ _) ?_))
      refine bodyPost_ret (res_row rfl _ _ _ 25 _ 12 rfl (Blk.setRow_ hb2) st_wide rfl) rfl ?_
      exact ⟨A2, c2, rfl, exA, OwnRw hap ho⟩
end Go.Proofs.Ytlpjhnecihhkfaa

namespace Go.Proofs.Ytlpjhnecihhkfaa
open Go.RowKit
set_option linter.unusedVariables false
set_option linter.unusedSimpArgs false
theorem step_append_own {P : Program} {ops : Array Oper} {o : Oper} {a : Act} {w : World} {K : Act → World → Prop} {Q : Exit → Act → World → Prop} {E : Prop}
    (hg : o.guard = none) (s x : Operand) (t : TypeId) (hop : o.op = Op.call { callee := Callee.builtin Builtin.append, args := #[s, x], argTypes := #[t, t] })
    (base : Nat) (e : TypeId) (z : Value) (size bytes : Nat) (h1 : P.underlying t = some (.slice e)) (he : Elem P e z size bytes)
    (v : Value) (n : Nat) (xs : List Value) (hs : a.eval s = v) (hown : w.ownsRow base e size v n xs)
    (ad : Addr) (m c : Nat) (news : List Value) (hx : a.eval x = .slice (some ad) m c) (hn : news.length = m * size) (hc : ∀ j u, news[j]? = some u → w.cell? (ad.add j) = some u) (h1c : ∀ u ∈ news, u.oneCell' = true)
    (b1 : n + m ≤ maxLen) (b2 : (n + m) * bytes ≤ 140737488355328) (hbase : base ≤ w.heap.size)
    (hK : ∀ v' w', w'.ownsRow base e size v' (n + m) (xs ++ news) → w.grownBy w' v.ownBlock → K (a.put o.dst v') w') :
    if Region.wanted o (yielded ops a.tmps) = true then Oper.wp P o a w K Q else E := by
  have hw : Region.wanted o (yielded ops a.tmps) = true := by simp [Region.wanted, hg]
  rw [if_pos hw]
  obtain ⟨i, h2, h3, h4, h5⟩ := info_parts he.1
  obtain ⟨v', w', hrun, r1, r2, _⟩ := run_append_own (P := P) w base t o.type e i z size bytes h1 h2 h3 h4 h5 he.2.1 he.2.2 v n xs hown ad m c news hn hc h1c b1 b2 hbase
  unfold Oper.wp
  simp [execOp, hop, resolve, invoke, builtin, hs, hx, hrun, Result.andThen]
  exact hK v' w' r1 r2
def CopPost (w : World) (s : St) (e' : Ending) (w' : World) : Prop := ∃ A' c', e' = .returned (.agg (stcells s A' c')) ∧ Ext w w' ∧ OwnLs w' w.heap.size A' s.lines c'
def CoR (w : World) (s : St) (A : Option Addr) (c : Nat) (c11 : Value) (wr : World) : Prop :=
  ∃ (k : Nat) (A' : Option Addr) (c' : Nat), c11 = .int .i64 (k : Nat) ∧ k ≤ s.lines.length ∧ Ext w wr ∧ Blk wr w.heap.size 25 (stcells s A c) ∧ Blk wr (w.heap.size + 1) 25 #[.int .i64 0, .int .i64 0, .int .i64 0, .int .i64 0, .int .i64 0, .slice none 0 0, .int .i64 0, .int .i64 0, .int .i64 0, .int .i64 0, .int .i64 0, .string ⟨#[]⟩] ∧
    Blk wr (w.heap.size + 1 + 1) 25 (stcells { s with lines := s.lines.take k } A' c') ∧ OwnLs wr w.heap.size A' (s.lines.take k) c'
theorem take_len {ls : List Ln} {k n : Nat} (h : k ≤ n) (hn : n = ls.length) : (ls.take k).length = k := by rw [List.length_take]; omega
set_option maxRecDepth 100000 in
set_option maxHeartbeats 4000000 in
theorem scopy_any (s : St) (A : Option Addr) (c : Nat) (w : World) (hr : LsRd w A s.lines) (hl : s.lines.length ≤ 4398046511000) :
    Calls Try.prog 15 #[.agg (stcells s A c)] w (CopPost w s) := by
  obtain ⟨order, status, prior, cur, tax, ls, paid, refunded, events, refused, stamp, who⟩ := s
  unfold CopPost
  have Hnn : Hid (∃ n, n = ls.length) := Lib.hid ⟨_, rfl⟩
  obtain ⟨n, hnn⟩ := Hnn.out
  have Hn := Lib.hid hnn
  clear Hnn
  unfold stcells at *
  dsimp only at *
  rw [← hnn] at hl ⊢
  clear hnn
  go_enter Try.func15, Try.ntmps15
  go_wp2_with fail
  go_loopw [11] (fun c11 wr => CoR w ⟨order, status, prior, cur, tax, ls, paid, refunded, events, refused, stamp, who⟩ A c c11 wr) (fun c11 _ => n - (intOf c11).toNat)
  case atStart => exact ⟨0, some ⟨w.heap.size + 1 + 1 + 1, 0, none⟩, 0, rfl, by omega, exA, Blk_eq (cs := #[.int .i64 order, .int .i64 status, .int .i64 prior, .int .i64 cur, .int .i64 tax, .slice A n c, .int .i64 paid, .int .i64 refunded, .int .i64 events, .int .i64 refused, .int .i64 stamp, .string who]) bkV (by rw [Hn.out]; rfl), bkV, Blk_eq (cs := #[.int .i64 order, .int .i64 status, .int .i64 prior, .int .i64 cur, .int .i64 tax, .slice (some ⟨w.heap.size + 1 + 1 + 1, 0, none⟩) 0 0, .int .i64 paid, .int .i64 refunded, .int .i64 events, .int .i64 refused, .int .i64 stamp, .string who]) bkV rfl, own_of_cells (by omega) (cur := #[]) bkV (Nat.zero_le _) (by decide) rfl rfl⟩
  case round =>
    obtain ⟨k, A2, c2, rfl, hk, hx, hbS, hbR, hbT, ho⟩ := hrel
    dsimp only at hk hbT ho
    rw [← Hn.out] at hk
    by_cases hlt : k < n
    · have hk0 : (ls.take k).length = k := take_len hk Hn.out
      have hk1 : (ls.take (k + 1)).length = k + 1 := take_len (n := n) (by omega) Hn.out
      obtain ⟨b, o, rfl, hc⟩ := ls_at hr (show k < ls.length by rw [← Hn.out]; exact hlt)
      have Hc := Lib.hid (range_ext hc hx)
      have hts : lnCells (ls.take (k + 1)) = lnCells (ls.take k) ++ (lncells (ls[k]'(by rw [← Hn.out]; exact hlt))).toList := by
        rw [List.take_succ_eq_append_getElem (by rw [← Hn.out]; exact hlt), lnCells_app, lnCells_one1]
      have H1 := Lib.hid (ln_one (ls[k]'(by rw [← Hn.out]; exact hlt)))
      clear hc
      generalize (ls[k]'(by rw [← Hn.out]; exact hlt)) = l at *
      obtain ⟨li, lp, lq, lsh⟩ := l
      unfold lncells at Hc hts H1
      dsimp only at Hc hts H1
      have e0 : wr.cell? ⟨b, o + k * 4, none⟩ = some (.int .i64 li) := Hc.out 0 _ rfl
      have e1 : wr.cell? ⟨b, o + k * 4 + 1, none⟩ = some (.int .i64 lp) := Hc.out 1 _ rfl
      have e2 : wr.cell? ⟨b, o + k * 4 + 2, none⟩ = some (.int .i64 lq) := Hc.out 2 _ rfl
      have e3 : wr.cell? ⟨b, o + k * 4 + 3, none⟩ = some (.int .i64 lsh) := Hc.out 3 _ rfl
      have hbS5 : wr.cell? ⟨w.heap.size, 5, none⟩ = some (.slice (some ⟨b, o, none⟩) n c) := (hbS.cell 5).trans (by rw [Hn.out]; rfl)
      have hbT' : Blk wr (w.heap.size + 1 + 1) 25 #[.int .i64 order, .int .i64 status, .int .i64 prior, .int .i64 cur, .int .i64 tax, .slice A2 k c2, .int .i64 paid, .int .i64 refunded, .int .i64 events, .int .i64 refused, .int .i64 stamp, .string who] := Blk_eq hbT (by simp only [stcells, hk0])
      have hbT5 : wr.cell? ⟨w.heap.size + 1 + 1, 5, none⟩ = some (.slice A2 k c2) := hbT'.cell 5
      have hA5 : ∀ ob, (wr.alloc ob).cell? ⟨w.heap.size + 1 + 1, 5, none⟩ = some (.slice A2 k c2) := fun ob => (BlkA hbT').cell 5
      have hap := own_apart ho hbT
      have Hown2 : Hid (World.ownsRow ((wr.alloc (.cells #[.int .i64 li, .int .i64 lp, .int .i64 lq, .int .i64 lsh] 48)).drew) w.heap.size 48 4 (.slice A2 k c2) k (lnCells (ls.take k))) := Lib.hid (by have := OwnD (OwnA (o := .cells #[.int .i64 li, .int .i64 lp, .int .i64 lq, .int .i64 lsh] 48) ho); unfold OwnLs at this; rwa [hk0] at this)
      have hbT2 : Blk ((wr.alloc (.cells #[.int .i64 li, .int .i64 lp, .int .i64 lq, .int .i64 lsh] 48)).drew) (w.heap.size + 1 + 1) 25 #[.int .i64 order, .int .i64 status, .int .i64 prior, .int .i64 cur, .int .i64 tax, .slice A2 k c2, .int .i64 paid, .int .i64 refunded, .int .i64 events, .int .i64 refused, .int .i64 stamp, .string who] := BlkD (BlkA hbT')
      have hbL : Blk ((wr.alloc (.cells #[.int .i64 li, .int .i64 lp, .int .i64 lq, .int .i64 lsh] 48)).drew) wr.heap.size 48 #[.int .i64 li, .int .i64 lp, .int .i64 lq, .int .i64 lsh] := BlkD (BlkN rfl)
      have Hnw : Hid (∀ j u, (#[.int .i64 li, .int .i64 lp, .int .i64 lq, .int .i64 lsh] : Array Value).toList[j]? = some u → ((wr.alloc (.cells #[.int .i64 li, .int .i64 lp, .int .i64 lq, .int .i64 lsh] 48)).drew).cell? ((⟨wr.heap.size, 0, none⟩ : Addr).add j) = some u) := Lib.hid fun j u hu => by rw [Addr.add_lit, Nat.zero_add, hbL.cell]; simpa using hu
      have hN : w.heap.size ≤ wr.heap.size := hx.size
      have Hbs : Hid (w.heap.size ≤ ((wr.alloc (.cells #[.int .i64 li, .int .i64 lp, .int .i64 lq, .int .i64 lsh] 48)).drew).heap.size) := Lib.hid (by simp; omega)
      have hkn : (k : Int) < (n : Int) := by omega
      have mixed : Try.prog.follows Departure.mixedOrders = true := by kernel_rfl
      have HbR := Lib.hid hbR
      have HbS := Lib.hid hbS
      have Hts := Lib.hid hts
      have ho0 := ho
      clear hbR hbS hbT hbT' hts ho
      go_wp2_with fail
      go_region_law_o (refine step_append_own rfl (.tmp 15) (.tmp 21) 23 rfl w.heap.size 48 _ 4 32 Try.underlying23 el_ln (.slice A2 k c2) k (lnCells (ls.take k)) (by simp [Act.eval, Act.put]) Hown2.out ⟨wr.heap.size, 0, none⟩ 1 1 [.int .i64 li, .int .i64 lp, .int .i64 lq, .int .i64 lsh] (by simp [Act.eval, Act.put]) rfl Hnw.out H1.out (by simp only [maxLen]; omega) (by omega) Hbs.out ?_; intro v' w2 hown' hg'; obtain ⟨A3, c3, rfl⟩ := own_slice hown'; have q := BlkG hbT2 hg' (fun h => hap _ _ h.symm); have z1 := q.cell 5; have z2 := q.frozen 5)
      all_goals
        go_wp2_with fail
        refine And.intro ?_ ?_
        · have o3 : OwnLs w2 w.heap.size A3 (ls.take (k + 1)) c3 := by unfold OwnLs; rw [hk1, Hts.out]; exact hown'
          have hap3 := own_apart o3 q
          have hX2 : Ext w w2 := Ext.grown (show Ext w ((wr.alloc (.cells #[.int .i64 li, .int .i64 lp, .int .i64 lq, .int .i64 lsh] 48)).drew) from exA) hg' (fun r hr2 => (World.ownsRow.lt Hown2.out r hr2).1)
          refine ⟨k + 1, A3, c3, by go_num, by have := Hn.out; dsimp only; omega, exA, ?_, ?_, Blk_eq (BlkS q) (by simp only [stcells, hk1]; rfl), OwnSt hap3 o3⟩
          · exact BlkF (by dsimp only; omega) (BlkG (BlkD (BlkA HbS.out)) hg' (fun h => own_apart ho0 HbS.out _ _ h.symm))
          · exact BlkF (by dsimp only; omega) (BlkG (BlkD (BlkA HbR.out)) hg' (fun h => own_apart ho0 HbR.out _ _ h.symm))
        · simp [intOf]; omega
    · obtain rfl : k = n := by omega
      have htk : ls.take k = ls := List.take_of_length_le (by have := Hn.out; omega)
      rw [htk] at hbT ho
      have hbT' : Blk wr (w.heap.size + 1 + 1) 25 #[.int .i64 order, .int .i64 status, .int .i64 prior, .int .i64 cur, .int .i64 tax, .slice A2 k c2, .int .i64 paid, .int .i64 refunded, .int .i64 events, .int .i64 refused, .int .i64 stamp, .string who] := Blk_eq hbT (by simp only [stcells]; rw [← Hn.out])
      have hap := own_apart ho hbR
      go_wp2_with (first
        | (with_reducible refine wpL_load_row rfl 25 (.tmp 3) rfl _ 25 _ 12 rfl hbT' st_wide (st_size' _ _ _ _ _ _ _ _ _ _ _ _ _ _) ?_)
        | (with_reducible refine wpL_store_row rfl 25 (.tmp 2) (.tmp 25) rfl _ 25 _ _ rfl rfl hbR ((st_size' _ _ _ _ _ _ _ _ _ _ _ _ _ _).trans (st_size' _ _ _ _ _ _ _ _ _ _ _ _ _ _).symm) (st_one' _ _ _ _ _ _ _ _ _ _ _ _ _ _) 12 st_wide (st_size' _ _ _ _ _ _ _ _ _ _ _ _ _ _) ?_))
      refine bodyPost_ret (res_row rfl _ _ _ 25 _ 12 rfl (Blk.setRow_ hbR) st_wide rfl) rfl ?_
      exact ⟨A2, c2, rfl, exA, OwnRw hap ho⟩
end Go.Proofs.Ytlpjhnecihhkfaa

namespace Go.Proofs.Ytlpjhnecihhkfaa
open Go.RowKit
set_option linter.unusedVariables false
set_option linter.unusedSimpArgs false
def hE1 : Ev := ⟨1, 7, 0, 0, 0, 0, 1000, ⟨#[]⟩, 0, ⟨#[]⟩⟩
def hE2 : Ev := ⟨2, 7, 3, 2, 500, 0, 0, ⟨#[]⟩, 0, ⟨#[]⟩⟩
def hE3 : Ev := ⟨2, 7, 1, 1, 99, 0, 0, ⟨#[]⟩, 0, ⟨#[]⟩⟩
def hE4 : Ev := ⟨3, 7, 0, 0, 1208, 0, 0, ⟨#[]⟩, 0, ⟨#[]⟩⟩
def hL : List Ln := [⟨1, 99, 1, 0⟩, ⟨3, 500, 2, 0⟩]
def hS : St := ⟨7, 1, 0, 0, 1000, hL, 0, 0, 3, 0, 0, ⟨#[]⟩⟩
def hT : St := ⟨7, 3, 0, 0, 1000, hL, 1208, 0, 4, 0, 0, ⟨#[]⟩⟩
theorem head_fold : fold (noSt 7) [hE1, hE2, hE3] = hS := by kernel_rfl
theorem head_valid : validB hS = true := by kernel_rfl
theorem head_due : due hS = 1208 := by kernel_rfl
theorem head_apply : apply hS hE4 = (hT, 0) := by kernel_rfl
theorem head_valid2 : validB hT = true := by kernel_rfl
theorem es_head {w : World} {h : Nat} (hb : Blk w h 28 #[.int .i64 1, .int .i64 7, .int .i64 0, .int .i64 0, .int .i64 0, .int .i64 0, .int .i64 1000, .string ⟨#[]⟩, .int .i64 0, .string ⟨#[]⟩, .int .i64 2, .int .i64 7, .int .i64 3, .int .i64 2, .int .i64 500, .int .i64 0, .int .i64 0, .string ⟨#[]⟩, .int .i64 0, .string ⟨#[]⟩, .int .i64 2, .int .i64 7, .int .i64 1, .int .i64 1, .int .i64 99, .int .i64 0, .int .i64 0, .string ⟨#[]⟩, .int .i64 0, .string ⟨#[]⟩]) : EsRd w (some ⟨h, 0, none⟩) [hE1, hE2, hE3] :=
  ⟨rfl, fun _ => ⟨h, 0, rfl, fun j u hu => by
    rw [Nat.zero_add, hb.cell, ← Array.getElem?_toList]
    exact hu⟩⟩
theorem hd_fold (w : World) (h : Nat) (hb : Blk w h 28 #[.int .i64 1, .int .i64 7, .int .i64 0, .int .i64 0, .int .i64 0, .int .i64 0, .int .i64 1000, .string ⟨#[]⟩, .int .i64 0, .string ⟨#[]⟩, .int .i64 2, .int .i64 7, .int .i64 3, .int .i64 2, .int .i64 500, .int .i64 0, .int .i64 0, .string ⟨#[]⟩, .int .i64 0, .string ⟨#[]⟩, .int .i64 2, .int .i64 7, .int .i64 1, .int .i64 1, .int .i64 99, .int .i64 0, .int .i64 0, .string ⟨#[]⟩, .int .i64 0, .string ⟨#[]⟩]) :
    Calls Try.prog 28 #[.agg #[.int .i64 7, .int .i64 0, .int .i64 0, .int .i64 0, .int .i64 0, .slice none 0 0, .int .i64 0, .int .i64 0, .int .i64 0, .int .i64 0, .int .i64 0, .string ⟨#[]⟩], .slice (some ⟨h, 0, none⟩) 3 3] w fun e w' => ∃ A c, e = .returned (.agg #[.int .i64 7, .int .i64 1, .int .i64 0, .int .i64 0, .int .i64 1000, .slice A 2 c, .int .i64 0, .int .i64 0, .int .i64 3, .int .i64 0, .int .i64 0, .string ⟨#[]⟩]) ∧ Ext w w' ∧ OwnLs w' w.heap.size A hL c := by
  have := fold_any (noSt 7) [hE1, hE2, hE3] none (some ⟨h, 0, none⟩) 0 3 w (RdN.nil_ _ _ _) (es_head hb) ⟨by decide, by decide⟩ (by intro e he; simp at he; rcases he with rfl | rfl | rfl <;> exact ⟨by decide, by decide⟩) (by decide)
  rw [head_fold] at this
  exact this
theorem hd_due (w : World) (A : Option Addr) (c : Nat) (hr : LsRd w A hL) :
    Calls Try.prog 21 #[.agg #[.int .i64 7, .int .i64 1, .int .i64 0, .int .i64 0, .int .i64 1000, .slice A 2 c, .int .i64 0, .int .i64 0, .int .i64 3, .int .i64 0, .int .i64 0, .string ⟨#[]⟩]] w fun e w' => e = .returned (.tuple #[.int .i64 1208, .bool true]) ∧ Ext w w' := by
  have := pdue_any hS A c w hr (by decide) (by decide)
  rw [head_valid, if_pos rfl, head_due] at this
  exact this
theorem hd_apply (w : World) (A : Option Addr) (c : Nat) (hr : LsRd w A hL) :
    Calls Try.prog 27 #[.agg #[.int .i64 7, .int .i64 1, .int .i64 0, .int .i64 0, .int .i64 1000, .slice A 2 c, .int .i64 0, .int .i64 0, .int .i64 3, .int .i64 0, .int .i64 0, .string ⟨#[]⟩], .agg #[.int .i64 3, .int .i64 7, .int .i64 0, .int .i64 0, .int .i64 1208, .int .i64 0, .int .i64 0, .string ⟨#[]⟩, .int .i64 0, .string ⟨#[]⟩]] w fun e w' => ∃ A' c', e = .returned (.tuple #[.agg #[.int .i64 7, .int .i64 3, .int .i64 0, .int .i64 0, .int .i64 1000, .slice A' 2 c', .int .i64 1208, .int .i64 0, .int .i64 4, .int .i64 0, .int .i64 0, .string ⟨#[]⟩], .int .i64 0]) ∧ Ext w w' ∧ OwnLs w' w.heap.size A' hL c' := by
  have := apply_any hS hE4 A c w hr (by decide) (by decide) (by decide) (by decide)
  rw [head_apply] at this
  exact this
theorem hd_valid (w : World) (A : Option Addr) (c : Nat) (hr : LsRd w A hL) :
    Calls Try.prog 22 #[.agg #[.int .i64 7, .int .i64 3, .int .i64 0, .int .i64 0, .int .i64 1000, .slice A 2 c, .int .i64 1208, .int .i64 0, .int .i64 4, .int .i64 0, .int .i64 0, .string ⟨#[]⟩]] w fun e w' => e = .returned (.bool true) ∧ Ext w w' := by
  have := valid_any hT A c w hr (by decide) (by decide)
  rw [head_valid2] at this
  exact this
theorem hd_empty (w : World) : Calls Try.prog 14 #[.int .i64 7] w fun e w' => e = .returned (.agg #[.int .i64 7, .int .i64 0, .int .i64 0, .int .i64 0, .int .i64 0, .slice none 0 0, .int .i64 0, .int .i64 0, .int .i64 0, .int .i64 0, .int .i64 0, .string ⟨#[]⟩]) ∧ Ext w w' := empty_any 7 w
set_option maxRecDepth 100000 in
set_option maxHeartbeats 4000000 in
theorem head_any (w : World) : Calls Try.prog 20 #[] w fun e w' => e = .returned (.bool true) ∧ Ext w w' := by
  have K0 := Lib.hid hd_empty
  have K1 := Lib.hid hd_fold
  have K2 := Lib.hid hd_due
  have K3 := Lib.hid hd_apply
  have K4 := Lib.hid hd_valid
  go_enter Try.func20, Try.ntmps20
  go_wp2_with (first
    | (go_at_call 14; (with_reducible refine (K0.out _).mono ?_); rintro e w1 ⟨rfl, hx1⟩)
    | (go_at_call 28; (with_reducible refine (K1.out _ _ (BlkN rfl)).mono ?_); rintro e w2 ⟨A2, c2, rfl, hx2, ho2⟩; obtain ⟨lb, _, rfl, _, _⟩ := own_blk ho2 (by decide))
    | (go_at_call 21; (with_reducible refine (K2.out _ _ _ (LsRd.ext ho2.rd exA)).mono ?_); rintro e w3 ⟨rfl, hx3⟩; have b3 : Blk w3 w2.heap.size 25 #[.int .i64 7, .int .i64 1, .int .i64 0, .int .i64 0, .int .i64 1000, .slice (some ⟨lb, 0, none⟩) 2 c2, .int .i64 0, .int .i64 0, .int .i64 3, .int .i64 0, .int .i64 0, .string ⟨#[]⟩] := BlkE (BlkN rfl) hx3; have o3 := (OwnA (o := .cells #[.int .i64 7, .int .i64 1, .int .i64 0, .int .i64 0, .int .i64 1000, .slice (some ⟨lb, 0, none⟩) 2 c2, .int .i64 0, .int .i64 0, .int .i64 3, .int .i64 0, .int .i64 0, .string ⟨#[]⟩] 25) ho2).mono hx3)
    | (go_at_call 27; (with_reducible refine (K3.out _ _ _ (LsRd.ext ho2.rd exA)).mono ?_); rintro e w4 ⟨A4, c4, rfl, hx4, ho4⟩; have b4 := fun ob => BlkA (o := ob) (BlkE b3 hx4); have y5 : ∀ ob, (w4.alloc ob).cell? ⟨w2.heap.size, 5, none⟩ = some (.slice (some ⟨lb, 0, none⟩) 2 c2) := fun ob => (b4 ob).cell 5; have y0 : ∀ ob, (w4.alloc ob).cell? ⟨lb, 0, none⟩ = some (.int .i64 1) := fun ob => own_at (OwnA (o := ob) (o3.mono hx4)) (k := 0) (by decide) 0 _ rfl)
    | (go_at_call 22; (with_reducible refine (K4.out _ _ _ (LsRd.ext ho4.rd exA)).mono ?_); rintro e w5 ⟨rfl, hx5⟩)
    | (with_reducible refine wpL_load_row rfl 25 (.tmp 1) rfl _ 25 _ 12 rfl b3 st_wide (st_size' _ _ _ _ _ _ _ _ _ _ _ _ _ _) ?_))
  go_ret
  exact ⟨rfl, exA⟩
end Go.Proofs.Ytlpjhnecihhkfaa

namespace Go.Proofs.Ytlpjhnecihhkfaa
open Go.RowKit
set_option linter.unusedVariables false
set_option linter.unusedSimpArgs false
def SaR (W : World) (n : Nat) (c91 : Value) (wr : World) : Prop := ∃ k : Nat, c91 = .int .i64 (k : Nat) ∧ k ≤ n ∧ Ext W wr
set_option maxRecDepth 100000 in
set_option maxHeartbeats 4000000 in
theorem same_any (s : St) (A A2 : Option Addr) (c c2 : Nat) (w : World) (hr : LsRd w A s.lines) (hr2 : LsRd w A2 s.lines) (hl : s.lines.length ≤ 4611686018427387904) :
    Calls Try.prog 23 #[.agg (stcells s A c), .agg (stcells s A2 c2)] w fun e w' => e = .returned (.bool true) ∧ Ext w w' := by
  obtain ⟨order, status, prior, cur, tax, ls, paid, refunded, events, refused, stamp, who⟩ := s
  have Hnn : Hid (∃ n, n = ls.length) := Lib.hid ⟨_, rfl⟩
  obtain ⟨n, hnn⟩ := Hnn.out
  have Hn := Lib.hid hnn
  clear Hnn
  unfold stcells at *
  dsimp only at *
  rw [← hnn] at hl ⊢
  clear hnn
  go_enter Try.func23, Try.ntmps23
  go_wp2_with fail
  obtain ⟨W, hW⟩ : ∃ W, W = (w.alloc (.cells #[.int .i64 order, .int .i64 status, .int .i64 prior, .int .i64 cur, .int .i64 tax, .slice A n c, .int .i64 paid, .int .i64 refunded, .int .i64 events, .int .i64 refused, .int .i64 stamp, .string who] 25)).alloc (.cells #[.int .i64 order, .int .i64 status, .int .i64 prior, .int .i64 cur, .int .i64 tax, .slice A2 n c2, .int .i64 paid, .int .i64 refunded, .int .i64 events, .int .i64 refused, .int .i64 stamp, .string who] 25) := ⟨_, rfl⟩
  have hXW : Ext w W := by rw [hW]; exact exA
  have hB1 : Blk W w.heap.size 25 #[.int .i64 order, .int .i64 status, .int .i64 prior, .int .i64 cur, .int .i64 tax, .slice A n c, .int .i64 paid, .int .i64 refunded, .int .i64 events, .int .i64 refused, .int .i64 stamp, .string who] := by rw [hW]; exact bkV
  have hB2 : Blk W (w.heap.size + 1) 25 #[.int .i64 order, .int .i64 status, .int .i64 prior, .int .i64 cur, .int .i64 tax, .slice A2 n c2, .int .i64 paid, .int .i64 refunded, .int .i64 events, .int .i64 refused, .int .i64 stamp, .string who] := by rw [hW]; exact bkV
  rw [← hW]
  clear hW
  go_loopw [91] (fun c91 wr => SaR W n c91 wr) (fun c91 _ => n - (intOf c91).toNat)
  case atStart => exact ⟨0, rfl, by omega, Below.refl _ _⟩
  case round =>
    obtain ⟨k, rfl, hk, hx⟩ := hrel
    by_cases hlt : k < n
    · obtain ⟨b, o, rfl, hc⟩ := ls_at hr (show k < ls.length by rw [← Hn.out]; exact hlt)
      obtain ⟨b2, o2, rfl, hc2⟩ := ls_at hr2 (show k < ls.length by rw [← Hn.out]; exact hlt)
      have Hc := Lib.hid (range_ext hc (hXW.tr hx))
      have Hc2 := Lib.hid (range_ext hc2 (hXW.tr hx))
      clear hc hc2
      generalize (ls[k]'(by rw [← Hn.out]; exact hlt)) = l at *
      obtain ⟨li, lp, lq, lsh⟩ := l
      unfold lncells at Hc Hc2
      dsimp only at Hc Hc2
      have e0 : wr.cell? ⟨b, o + k * 4, none⟩ = some (.int .i64 li) := Hc.out 0 _ rfl
      have e1 : wr.cell? ⟨b, o + k * 4 + 1, none⟩ = some (.int .i64 lp) := Hc.out 1 _ rfl
      have e2 : wr.cell? ⟨b, o + k * 4 + 2, none⟩ = some (.int .i64 lq) := Hc.out 2 _ rfl
      have e3 : wr.cell? ⟨b, o + k * 4 + 3, none⟩ = some (.int .i64 lsh) := Hc.out 3 _ rfl
      have f0 : wr.cell? ⟨b2, o2 + k * 4, none⟩ = some (.int .i64 li) := Hc2.out 0 _ rfl
      have f1 : wr.cell? ⟨b2, o2 + k * 4 + 1, none⟩ = some (.int .i64 lp) := Hc2.out 1 _ rfl
      have f2 : wr.cell? ⟨b2, o2 + k * 4 + 2, none⟩ = some (.int .i64 lq) := Hc2.out 2 _ rfl
      have f3 : wr.cell? ⟨b2, o2 + k * 4 + 3, none⟩ = some (.int .i64 lsh) := Hc2.out 3 _ rfl
      have a5 : wr.cell? ⟨w.heap.size, 5, none⟩ = some (.slice (some ⟨b, o, none⟩) n c) := (BlkE hB1 hx).cell 5
      have b5 : wr.cell? ⟨w.heap.size + 1, 5, none⟩ = some (.slice (some ⟨b2, o2, none⟩) n c2) := (BlkE hB2 hx).cell 5
      have hkn : (k : Int) < (n : Int) := by omega
      go_wp2_with fail
      all_goals try go_region
      all_goals (go_wp2_with fail)
      refine And.intro ?_ ?_
      · exact ⟨k + 1, by go_num, by omega, exA⟩
      · simp [intOf]; omega
    · obtain rfl : k = n := by omega
      go_wp2_with fail
      go_ret
      exact ⟨rfl, exA⟩
end Go.Proofs.Ytlpjhnecihhkfaa
