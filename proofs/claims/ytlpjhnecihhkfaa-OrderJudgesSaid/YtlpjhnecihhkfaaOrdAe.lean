/-
  The walks of order.Apply (whole), order.Fold, order.Empty.
-/
import Derived.Test.YtlpjhnecihhkfaaOrdAd
namespace Go.Proofs.Ytlpjhnecihhkfaa
open Go.RowKit
set_option linter.unusedVariables false
set_option linter.unusedSimpArgs false
theorem judge_valid {s : St} {e : Ev} (h : judge s e ≠ 1) : VOk s := by
  cases hv : validB s with
  | true => exact valid_iff.1 hv
  | false => exact absurd (by unfold judge; rw [if_pos (.inl hv)]) h
theorem apply_any (s : St) (e : Ev) (A : Option Addr) (c : Nat) (w : World) (hr : LsRd w A s.lines) (hn : s.lines.length ≤ 4398046510976) (hw1 : s.who.size ≤ 4611686018427387904) (hw2 : e.who.size ≤ 4611686018427387904) (hw3 : e.note.size ≤ 4611686018427387904) :
    Calls Try.prog 27 #[.agg (stcells s A c), .agg (evcells e)] w (ApPost w (apply s e).1 (apply s e).2) := by
  unfold apply
  by_cases h1 : judge s e = 1 ∨ judge s e = 2
  · rw [if_pos h1]; exact apply_a s e A c w hr hn hw1 hw2 hw3 h1
  · rw [if_neg h1]
    by_cases h0 : judge s e = 0
    · rw [if_neg (by omega)]; exact apply_c s e A c w hr hn hw1 hw2 hw3 h0
    · rw [if_pos (by omega)]
      have hv := judge_valid (s := s) (e := e) (by omega)
      have h2 := hv.events
      have h3 := hv.refused
      exact apply_b s e A c w hr hn hw1 hw2 hw3 (by omega) h2 (by omega)
/-- The lengths of a state. -/
def StSm (s : St) : Prop := s.lines.length ≤ 4398046510976 ∧ s.who.size ≤ 4611686018427387904
def EvSm (e : Ev) : Prop := e.who.size ≤ 4611686018427387904 ∧ e.note.size ≤ 4611686018427387904
theorem sm_of_valid {s : St} (h : VOk s) : StSm s := by
  have h1 := h.len
  have h2 := h.named
  simp only [namedB, and_t, decide_eq_true_eq] at h2
  exact ⟨by omega, by omega⟩
theorem sm_apply {s : St} (e : Ev) (h : StSm s) : StSm (apply s e).1 := by
  by_cases h1 : judge s e = 1
  · unfold apply; rw [if_pos (.inl h1)]; exact h
  · exact sm_of_valid (valid_apply (judge_valid h1))
theorem fold_take {s : St} {es : List Ev} {k : Nat} (hk : k < es.length) : fold s (es.take (k + 1)) = (apply (fold s (es.take k)) es[k]).1 := by
  unfold fold
  rw [List.take_succ_eq_append_getElem hk, List.foldl_append]
  rfl
theorem sm_fold {s : St} (es : List Ev) (h : StSm s) : StSm (fold s es) := by
  unfold fold
  induction es generalizing s with
  | nil => exact h
  | cons e r ih => exact ih (sm_apply e h)
def evCells (es : List Ev) : List Value := es.flatMap fun e => (evcells e).toList
/-- A slice of events that reads as es. -/
def EsRd (w : World) (B : Option Addr) (es : List Ev) : Prop := RdN w 10 B es.length (evCells es)
theorem EsRd.ext {w w' : World} {B : Option Addr} {es : List Ev} (h : EsRd w B es) (hx : Ext w w') : EsRd w' B es := RdN.ext h hx
theorem evCells_len (es : List Ev) : (evCells es).length = es.length * 10 := by
  induction es with
  | nil => rfl
  | cons h r ih => simp only [evCells, List.flatMap_cons, List.length_append] at ih ⊢; rw [ih]; simp [evcells]; omega
theorem evCells_at (es : List Ev) (k j : Nat) (e : Ev) (hk : es[k]? = some e) (hj : j < 10) : (evCells es)[k * 10 + j]? = (evcells e).toList[j]? := by
  induction es generalizing k with
  | nil => simp at hk
  | cons g r ih =>
    have e1 : evCells (g :: r) = (evcells g).toList ++ evCells r := by simp [evCells]
    rw [e1]
    cases k with
    | zero =>
      simp at hk
      subst hk
      rw [List.getElem?_append_left (by simp [evcells]; omega)]
      simp
    | succ k =>
      rw [List.getElem?_append_right (by simp [evcells]; omega)]
      have : (k + 1) * 10 + j - (evcells g).toList.length = k * 10 + j := by simp [evcells]; omega
      rw [this]
      exact ih k (by simpa using hk)
theorem es_at {w : World} {B : Option Addr} {k : Nat} {es : List Ev} (h : EsRd w B es) (hk : k < es.length) :
    ∃ b o, B = some ⟨b, o, none⟩ ∧ w.rangeAt b (o + k * 10) (evcells es[k]).toList := by
  obtain ⟨b, o, e, hc⟩ := h.2 (by omega)
  have hg : es[k]? = some es[k] := List.getElem?_eq_getElem hk
  refine ⟨b, o, e, fun j v hv => ?_⟩
  have hj : j < 10 := by
    have := (List.getElem?_eq_some_iff.1 hv).1
    simpa [evcells] using this
  rw [Nat.add_assoc]
  exact hc _ _ (by rw [evCells_at es k j _ hg hj]; exact hv)
def noSt (id : Int) : St := ⟨id, 0, 0, 0, 0, [], 0, 0, 0, 0, 0, ⟨#[]⟩⟩
theorem empty_any (id : Int) (w : World) : Calls Try.prog 14 #[.int .i64 id] w fun e w' => e = .returned (.agg (stcells (noSt id) none 0)) ∧ Ext w w' := by
  unfold stcells noSt
  go_enter Try.func14, Try.ntmps14
  go_wp2_with fail
  refine bodyPost_ret (res_row rfl _ _ _ 25 _ 12 rfl (BlkN rfl) st_wide rfl) rfl ?_
  exact ⟨rfl, (by repeat (first | with_reducible exact Below.refl _ _ | with_reducible assumption | with_reducible refine ExtD ?_ | with_reducible refine ExtDN ?_ | with_reducible refine ExtA ?_ | (with_reducible refine ExtR ?_ ?_; (first | omega | (dsimp only; omega) | (simp; done) | (simp; omega))) | (with_reducible refine ExtS ?_ ?_; (first | omega | (dsimp only; omega) | (simp; done) | (simp; omega))) | with_reducible refine Ext.tr ?_ (by with_reducible assumption)))⟩
def FoPost (w : World) (s2 : St) (e' : Ending) (w' : World) : Prop := ∃ A' c', e' = .returned (.agg (stcells s2 A' c')) ∧ Ext w w' ∧ OwnLs w' w.heap.size A' s2.lines c'
def FoR (w : World) (s : St) (es : List Ev) (c13 : Value) (wr : World) : Prop :=
  ∃ (k : Nat) (A : Option Addr) (c : Nat), c13 = .int .i64 (k : Nat) ∧ k ≤ es.length ∧ Ext w wr ∧ Blk wr w.heap.size 25 (stcells (fold s (es.take k)) A c) ∧ Blk wr (w.heap.size + 1) 25 #[.int .i64 0, .int .i64 0, .int .i64 0, .int .i64 0, .int .i64 0, .slice none 0 0, .int .i64 0, .int .i64 0, .int .i64 0, .int .i64 0, .int .i64 0, .string ⟨#[]⟩] ∧ OwnLs wr w.heap.size A (fold s (es.take k)).lines c
theorem alloc_ev (w : World) : (Instr.alloc 28 true (.tuple #[])).run Try.prog w = .ok (.pointer (some ⟨w.heap.size, 0, none⟩)) (w.alloc (.cells #[.int .i64 0, .int .i64 0, .int .i64 0, .int .i64 0, .int .i64 0, .int .i64 0, .int .i64 0, .string ⟨#[]⟩, .int .i64 0, .string ⟨#[]⟩] 28)) := by kernel_rfl
set_option maxRecDepth 100000 in
set_option maxHeartbeats 4000000 in
theorem fold_any (s : St) (es : List Ev) (A B : Option Addr) (c cb : Nat) (w : World) (hr : LsRd w A s.lines) (hre : EsRd w B es) (hs : StSm s) (hes : ∀ e ∈ es, EvSm e) (hen : es.length ≤ 4611686018427387904) :
    Calls Try.prog 28 #[.agg (stcells s A c), .slice B es.length cb] w (FoPost w (fold s es)) := by
  have KC := Lib.hid fun W (h : LsRd W A s.lines) => clone_any A s.lines c W h hs.1
  have Hs := Lib.hid hs
  have Hes := Lib.hid hes
  unfold NewLs at KC
  obtain ⟨n, hnn⟩ : ∃ n, n = es.length := ⟨_, rfl⟩
  rw [← hnn] at hen ⊢
  have Hn := Lib.hid hnn
  clear hnn hs hes
  unfold FoPost
  have Hst := Lib.hid (rfl : stcells s A c = _)
  rw [stcells]
  go_enter Try.func28, Try.ntmps28
  go_wp2_with (first | (go_at_call 47; (with_reducible refine (KC.out _ (hr.ext (by repeat (first | with_reducible exact Below.refl _ _ | with_reducible assumption | with_reducible refine ExtD ?_ | with_reducible refine ExtDN ?_ | with_reducible refine ExtA ?_ | (with_reducible refine ExtR ?_ ?_; (first | omega | (dsimp only; omega) | (simp; done) | (simp; omega))) | (with_reducible refine ExtS ?_ ?_; (first | omega | (dsimp only; omega) | (simp; done) | (simp; omega))) | with_reducible refine Ext.tr ?_ (by with_reducible assumption))))).mono ?_); rintro e w1 ⟨A1, c1, rfl, hx1, ho1⟩; have b1 := BlkE (BlkA (BlkN rfl)) hx1; have b2 : Blk w1 (w.heap.size + 1) 25 #[.int .i64 0, .int .i64 0, .int .i64 0, .int .i64 0, .int .i64 0, .slice none 0 0, .int .i64 0, .int .i64 0, .int .i64 0, .int .i64 0, .int .i64 0, .string ⟨#[]⟩] := (by repeat (first | with_reducible assumption | (with_reducible refine BlkN ?_; (first | rfl | (first | omega | (dsimp only; omega) | (simp; done) | (simp; omega)))) | with_reducible refine BlkD ?_ | with_reducible refine BlkDN ?_ | with_reducible refine BlkA ?_ | (with_reducible refine BlkF ?_ ?_; (first | omega | (dsimp only; omega) | (simp; done) | (simp; omega))) | with_reducible refine BlkE ?_ (by with_reducible assumption))); have z1 := b1.cell 5; have z2 := b1.frozen 5))
  go_loopw [13] (fun c13 wr => FoR w s es c13 wr) (fun c13 _ => n - (intOf c13).toNat)
  case atStart => exact ⟨0, A1, c1, rfl, by omega, (by repeat (first | with_reducible exact Below.refl _ _ | with_reducible assumption | with_reducible refine ExtD ?_ | with_reducible refine ExtDN ?_ | with_reducible refine ExtA ?_ | (with_reducible refine ExtR ?_ ?_; (first | omega | (dsimp only; omega) | (simp; done) | (simp; omega))) | (with_reducible refine ExtS ?_ ?_; (first | omega | (dsimp only; omega) | (simp; done) | (simp; omega))) | with_reducible refine Ext.tr ?_ (by with_reducible assumption))), Blk_eq (BlkS b1) rfl, (by repeat (first | with_reducible assumption | (with_reducible refine BlkN ?_; (first | rfl | (first | omega | (dsimp only; omega) | (simp; done) | (simp; omega)))) | with_reducible refine BlkD ?_ | with_reducible refine BlkDN ?_ | with_reducible refine BlkA ?_ | (with_reducible refine BlkF ?_ ?_; (first | omega | (dsimp only; omega) | (simp; done) | (simp; omega))) | with_reducible refine BlkE ?_ (by with_reducible assumption))), own_less (OwnSt (own_apart ho1 b1) ho1) (by (first | omega | (dsimp only; omega) | (simp; done) | (simp; omega)))⟩
  case round =>
    obtain ⟨k, A2, c2, rfl, hk, hx, hb, hb2, ho⟩ := hrel
    rw [← Hn.out] at hk
    clear b1 b2 z1 z2 ho1
    by_cases hlt : k < n
    · obtain ⟨b, o, rfl, hc⟩ := es_at hre (show k < es.length by rw [← Hn.out]; exact hlt)
      have Hc := Lib.hid (range_ext hc hx)
      have hft := fold_take (s := s) (show k < es.length by rw [← Hn.out]; exact hlt)
      have hse := Hes.out _ (List.getElem_mem (show k < es.length by rw [← Hn.out]; exact hlt))
      have hss := sm_fold (es.take k) Hs.out
      clear hc
      generalize es[k]'(by rw [← Hn.out]; exact hlt) = e at *
      generalize hsk : fold s (es.take k) = sk at *
      clear hsk
      have KA := Lib.hid fun W (h : LsRd W A2 sk.lines) => apply_any sk e A2 c2 W h hss.1 hss.2 hse.1 hse.2
      generalize hs3 : (apply sk e).1 = s3 at *
      generalize (apply sk e).2 = why at *
      clear hs3 hss hse
      have Hft := Lib.hid hft
      clear hft
      have Ho := Lib.hid ho
      have hap := own_apart ho hb
      have hal := alloc_ev
      have hN : w.heap.size < wr.heap.size := hb.lt
      have hB : ∀ ob, Blk (wr.alloc ob) w.heap.size 25 (stcells sk A2 c2) := fun ob => BlkA hb
      obtain ⟨ek, eo, ei, eq, ep, ec, et, ew, em, en⟩ := e
      unfold evcells at Hc KA
      unfold ApPost at KA
      dsimp only at Hc KA
      have e0 : wr.cell? ⟨b, o + k * 10, none⟩ = some (.int .i64 ek) := Hc.out 0 _ rfl
      have e1 : wr.cell? ⟨b, o + k * 10 + 1, none⟩ = some (.int .i64 eo) := Hc.out 1 _ rfl
      have e2 : wr.cell? ⟨b, o + k * 10 + 2, none⟩ = some (.int .i64 ei) := Hc.out 2 _ rfl
      have e3 : wr.cell? ⟨b, o + k * 10 + 3, none⟩ = some (.int .i64 eq) := Hc.out 3 _ rfl
      have e4 : wr.cell? ⟨b, o + k * 10 + 4, none⟩ = some (.int .i64 ep) := Hc.out 4 _ rfl
      have e5 : wr.cell? ⟨b, o + k * 10 + 5, none⟩ = some (.int .i64 ec) := Hc.out 5 _ rfl
      have e6 : wr.cell? ⟨b, o + k * 10 + 6, none⟩ = some (.int .i64 et) := Hc.out 6 _ rfl
      have e7 : wr.cell? ⟨b, o + k * 10 + 7, none⟩ = some (.string ew) := Hc.out 7 _ rfl
      have e8 : wr.cell? ⟨b, o + k * 10 + 8, none⟩ = some (.int .i64 em) := Hc.out 8 _ rfl
      have e9 : wr.cell? ⟨b, o + k * 10 + 9, none⟩ = some (.string en) := Hc.out 9 _ rfl
      go_wp2_with (first
        | (with_reducible refine wpL_load_row rfl 25 (.tmp 2) rfl _ 25 _ 12 rfl (hB _) st_wide (stc_size _ _ _) ?_)
        | (go_at_call 27; (with_reducible refine (KA.out _ (Ho.out.rd.ext (by repeat (first | with_reducible exact Below.refl _ _ | with_reducible assumption | with_reducible refine ExtD ?_ | with_reducible refine ExtDN ?_ | with_reducible refine ExtA ?_ | (with_reducible refine ExtR ?_ ?_; (first | omega | (dsimp only; omega) | (simp; done) | (simp; omega))) | (with_reducible refine ExtS ?_ ?_; (first | omega | (dsimp only; omega) | (simp; done) | (simp; omega))) | with_reducible refine Ext.tr ?_ (by with_reducible assumption))))).mono ?_); rintro e2 w2 ⟨A3, c3, rfl, hx2, ho2⟩; have q1 := BlkE (hB _) hx2; have q2 : Blk w2 (w.heap.size + 1) 25 #[.int .i64 0, .int .i64 0, .int .i64 0, .int .i64 0, .int .i64 0, .slice none 0 0, .int .i64 0, .int .i64 0, .int .i64 0, .int .i64 0, .int .i64 0, .string ⟨#[]⟩] := (by repeat (first | with_reducible assumption | (with_reducible refine BlkN ?_; (first | rfl | (first | omega | (dsimp only; omega) | (simp; done) | (simp; omega)))) | with_reducible refine BlkD ?_ | with_reducible refine BlkDN ?_ | with_reducible refine BlkA ?_ | (with_reducible refine BlkF ?_ ?_; (first | omega | (dsimp only; omega) | (simp; done) | (simp; omega))) | with_reducible refine BlkE ?_ (by with_reducible assumption))))
        | (with_reducible refine wpL_store_row rfl 25 (.tmp 2) (.tmp 21) rfl _ 25 _ _ rfl rfl q1 ((stc_size _ _ _).trans (stc_size _ _ _).symm) (stc_one _ _ _) 12 st_wide (stc_size _ _ _) ?_))
      refine And.intro ?_ ?_
      · refine ⟨k + 1, A3, c3, by go_num, by have := Hn.out; omega, (by repeat (first | with_reducible exact Below.refl _ _ | with_reducible assumption | with_reducible refine ExtD ?_ | with_reducible refine ExtDN ?_ | with_reducible refine ExtA ?_ | (with_reducible refine ExtR ?_ ?_; (first | omega | (dsimp only; omega) | (simp; done) | (simp; omega))) | (with_reducible refine ExtS ?_ ?_; (first | omega | (dsimp only; omega) | (simp; done) | (simp; omega))) | with_reducible refine Ext.tr ?_ (by with_reducible assumption))), ?_, (by repeat (first | with_reducible assumption | (with_reducible refine BlkN ?_; (first | rfl | (first | omega | (dsimp only; omega) | (simp; done) | (simp; omega)))) | with_reducible refine BlkD ?_ | with_reducible refine BlkDN ?_ | with_reducible refine BlkA ?_ | with_reducible refine BlkE ?_ (by with_reducible assumption) | with_reducible refine BlkS ?_ | (with_reducible refine BlkF ?_ ?_; (first | omega | (dsimp only; omega) | (simp; done) | (simp; omega))) | (with_reducible refine BlkR ?_ ?_; (first | omega | (dsimp only; omega) | (simp; done) | (simp; omega))))), ?_⟩
        · rw [Hft.out]; exact Blk.setRow_ q1
        · rw [Hft.out]; exact own_less (OwnRw (own_apart ho2 q1) ho2) (by (first | omega | (dsimp only; omega) | (simp; done) | (simp; omega)))
      · simp [intOf]; omega
    · obtain rfl : k = n := by omega
      have htk : es.take k = es := List.take_of_length_le (by have := Hn.out; omega)
      rw [htk] at hb ho
      have hap := own_apart ho hb2
      go_wp2_with (first
        | (with_reducible refine wpL_load_row rfl 25 (.tmp 2) rfl _ 25 _ 12 rfl hb st_wide (stc_size _ _ _) ?_)
        | (with_reducible refine wpL_store_row rfl 25 (.tmp 4) (.tmp 24) rfl _ 25 _ _ rfl rfl hb2 ((stc_size _ _ _).trans (st_size' _ _ _ _ _ _ _ _ _ _ _ _ _ _).symm) (stc_one _ _ _) 12 st_wide (stc_size _ _ _) ?_))
      refine bodyPost_ret (res_row rfl _ _ _ 25 _ 12 rfl (Blk.setRow_ hb2) st_wide rfl) rfl ?_
      exact ⟨A2, c2, rfl, (by repeat (first | with_reducible exact Below.refl _ _ | with_reducible assumption | with_reducible refine ExtD ?_ | with_reducible refine ExtDN ?_ | with_reducible refine ExtA ?_ | (with_reducible refine ExtR ?_ ?_; (first | omega | (dsimp only; omega) | (simp; done) | (simp; omega))) | (with_reducible refine ExtS ?_ ?_; (first | omega | (dsimp only; omega) | (simp; done) | (simp; omega))) | with_reducible refine Ext.tr ?_ (by with_reducible assumption))), OwnRw hap ho⟩
end Go.Proofs.Ytlpjhnecihhkfaa
