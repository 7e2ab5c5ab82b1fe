/-
  The walk of OrderMoney.
-/
import Derived.Test.YtlpjhnecihhkfaaOrdAg
import Derived.Test.YtlpjhnecihhkfaaOrdLawA
import Derived.Test.YtlpjhnecihhkfaaOrdC
namespace Go.Proofs.Ytlpjhnecihhkfaa
open Go.RowKit
set_option linter.unusedVariables false
set_option linter.unusedSimpArgs false
theorem order_apply (s : St) (e : Ev) : (apply s e).1.order = s.order := by
  unfold apply
  split
  · rfl
  split
  · rfl
  · show (rule (bump s e) e).order = s.order
    unfold rule
    repeat' split
    all_goals rfl
theorem valid_no {id : Int} (h1 : 1 ≤ id) (h2 : id ≤ 1099511627776) : VOk (noSt id) :=
  ⟨⟨h1, h2⟩, by simp [noSt], by simp [noSt], by simp [noSt], by simp [noSt], rfl, by simp [noSt], by simp [noSt], by simp [noSt], by simp [noSt], rfl, by simp [noSt, due, net, taxOf], rfl, rfl⟩
theorem shipped_paid {s : St} (h : VOk s) {l : Ln} (hl : l ∈ s.lines) : l.shipped ≤ l.qty ∧ 0 ≤ l.shipped ∧ (0 < l.shipped → s.paid = due s) := by
  obtain ⟨_, _, _, h3, h4⟩ := lnB_iff.1 (h.lines_ok l hl)
  refine ⟨h4, h3, fun hp => ?_⟩
  have hn : noneB s.lines = false := by
    rw [Bool.eq_false_iff]
    intro hc
    have := List.all_eq_true.1 hc l hl
    simp at this
    omega
  have hst := h.stands
  unfold standsB at hst
  split at hst
  · simp only [and_t, decide_eq_true_eq] at hst
    rw [hst.1.1] at hl
    cases hl
  split at hst
  · rw [hn] at hst; simp at hst
  split at hst
  · simp only [and_t, fullB, decide_eq_true_eq] at hst; exact hst.1.1
  split at hst
  · simp only [and_t, fullB, decide_eq_true_eq] at hst; exact hst.1.1
  · rw [hn] at hst; cases hst
def MoR (w : World) (G : Nat) (id : Int) (es : List Ev) (c27 : Value) (wr : World) : Prop :=
  ∃ (k : Nat) (s : St) (A : Option Addr) (c : Nat), c27 = .int .i64 (k : Nat) ∧ k ≤ es.length ∧ Ext w wr ∧ Blk wr G 25 (stcells s A c) ∧ OwnLs wr w.heap.size A s.lines c ∧ VOk s ∧ s.order = id
def MiR (W : World) (m : Nat) (c67 : Value) (wr : World) : Prop := ∃ j : Nat, c67 = .int .i64 (j : Nat) ∧ j ≤ m ∧ Ext W wr
set_option maxRecDepth 100000 in
set_option maxHeartbeats 4000000 in
theorem orderMoney_walk (id : Int) (B : Option Addr) (cb : Nat) (es : List Ev) (w : World) (hid : I64' id) (hre : EsRd w B es) (hel : es.length * 96 ≤ 140737488351232) (hes : ∀ e ∈ es, EvWf e) :
    Calls Try.prog 12 #[.int .i64 id, .slice B es.length cb] w fun e w' => e = .returned (.bool true) ∧ Ext w w' := by
  have K0 := Lib.hid head_any
  have K1 := Lib.hid fun W => empty_any id W
  have Hes := Lib.hid hes
  obtain ⟨n, hnn⟩ : ∃ n, n = es.length := ⟨_, rfl⟩
  rw [← hnn] at hel ⊢
  have Hn := Lib.hid hnn
  clear hnn hes
  by_cases hi : id < 1 ∨ 1099511627776 < id
  · go_enter Try.func12, Try.ntmps12
    by_cases hi1 : id < 1
    · go_wp2_with (go_at_call 20; (with_reducible refine (K0.out _).mono ?_); rintro e w1 ⟨rfl, hx1⟩)
      go_ret
      exact ⟨rfl, (by repeat (first | with_reducible exact Below.refl _ _ | with_reducible assumption | with_reducible refine ExtD ?_ | with_reducible refine ExtDN ?_ | with_reducible refine ExtA ?_ | (with_reducible refine ExtR ?_ ?_; (first | omega | (dsimp only; omega) | (simp; done) | (simp; omega))) | (with_reducible refine ExtS ?_ ?_; (first | omega | (dsimp only; omega) | (simp; done) | (simp; omega))) | with_reducible refine Ext.tr ?_ (by with_reducible assumption)))⟩
    · have hi2 : 1099511627776 < id := by omega
      go_wp2_with (go_at_call 20; (with_reducible refine (K0.out _).mono ?_); rintro e w1 ⟨rfl, hx1⟩)
      go_ret
      exact ⟨rfl, (by repeat (first | with_reducible exact Below.refl _ _ | with_reducible assumption | with_reducible refine ExtD ?_ | with_reducible refine ExtDN ?_ | with_reducible refine ExtA ?_ | (with_reducible refine ExtR ?_ ?_; (first | omega | (dsimp only; omega) | (simp; done) | (simp; omega))) | (with_reducible refine ExtS ?_ ?_; (first | omega | (dsimp only; omega) | (simp; done) | (simp; omega))) | with_reducible refine Ext.tr ?_ (by with_reducible assumption)))⟩
  · have hi1 : ¬ id < 1 := by omega
    have hi2 : ¬ 1099511627776 < id := by omega
    have hv0 := valid_no (id := id) (by omega) (by omega)
    have hid2 : id ≠ 0 := by omega
    clear hi
    go_enter Try.func12, Try.ntmps12
    go_wp2_with (first
      | (go_at_call 20; (with_reducible refine (K0.out _).mono ?_); rintro e w1 ⟨rfl, hx1⟩)
      | (go_at_call 14; (with_reducible refine (K1.out _).mono ?_); rintro e w2 ⟨rfl, hx2⟩)
      | (with_reducible refine wpL_store_row rfl 25 (.tmp 5) (.tmp 24) rfl _ 25 _ _ rfl rfl (BlkN rfl) ((stc_size _ _ _).trans (st_size' _ _ _ _ _ _ _ _ _ _ _ _ _ _).symm) (stc_one _ _ _) 12 st_wide (stc_size _ _ _) ?_))
    have hG : w.heap.size ≤ w2.heap.size := by have h1 := hx1.size; have h2 := hx2.size; omega
    have b5 := Blk.setRow_ (ds := stcells (noSt id) none 0) (BlkN (w := w2) (cs := #[.int .i64 0, .int .i64 0, .int .i64 0, .int .i64 0, .int .i64 0, .slice none 0 0, .int .i64 0, .int .i64 0, .int .i64 0, .int .i64 0, .int .i64 0, .string ⟨#[]⟩]) (t := 25) rfl)
    have hX5 : Ext w ((w2.alloc (.cells #[.int .i64 0, .int .i64 0, .int .i64 0, .int .i64 0, .int .i64 0, .slice none 0 0, .int .i64 0, .int .i64 0, .int .i64 0, .int .i64 0, .int .i64 0, .string ⟨#[]⟩] 25)).setRow w2.heap.size (stcells (noSt id) none 0)) := (by repeat (first | with_reducible exact Below.refl _ _ | with_reducible assumption | with_reducible refine ExtD ?_ | with_reducible refine ExtDN ?_ | with_reducible refine ExtA ?_ | (with_reducible refine ExtR ?_ ?_; (first | omega | (dsimp only; omega) | (simp; done) | (simp; omega))) | (with_reducible refine ExtS ?_ ?_; (first | omega | (dsimp only; omega) | (simp; done) | (simp; omega))) | with_reducible refine Ext.tr ?_ (by with_reducible assumption)))
    generalize (w2.alloc (.cells #[.int .i64 0, .int .i64 0, .int .i64 0, .int .i64 0, .int .i64 0, .slice none 0 0, .int .i64 0, .int .i64 0, .int .i64 0, .int .i64 0, .int .i64 0, .string ⟨#[]⟩] 25)).setRow w2.heap.size (stcells (noSt id) none 0) = w5 at *
    generalize w2.heap.size = G at *
    go_loopw [27] (fun c27 wr => MoR w G id es c27 wr) (fun c27 _ => n - (intOf c27).toNat)
    case atStart => exact ⟨0, noSt id, none, 0, rfl, by omega, hX5, b5, World.ownsRow_nil _ _ _ _, hv0, rfl⟩
    case round =>
      obtain ⟨k, sk, A2, c2, rfl, hk, hx, hb, ho, hv, hord⟩ := hrel
      rw [← Hn.out] at hk
      clear hx1 hx2 b5 hX5 hv0
      by_cases hlt : k < n
      · obtain ⟨b, o, rfl, hc⟩ := es_at hre (show k < es.length by rw [← Hn.out]; exact hlt)
        have Hc := Lib.hid (range_ext hc hx)
        have hse := ev_sm (Hes.out _ (List.getElem_mem (show k < es.length by rw [← Hn.out]; exact hlt)))
        have hss := sm_of_valid hv
        clear hc
        generalize es[k]'(by rw [← Hn.out]; exact hlt) = e at *
        have hv2 := valid_apply (e := e) hv
        have hss2 := sm_of_valid hv2
        have hor2 : (apply sk e).1.order = id := (order_apply sk e).trans hord
        have KA := Lib.hid fun W (h : LsRd W A2 sk.lines) => apply_any sk e A2 c2 W h hss.1 hss.2 hse.1 hse.2
        have KV : Hid (∀ A' c' W, LsRd W A' (apply sk e).1.lines → Calls Try.prog 21 #[.agg (stcells (apply sk e).1 A' c')] W fun e' w' => e' = .returned (.tuple #[.int .i64 (due (apply sk e).1), .bool true]) ∧ Ext W w') := Lib.hid fun A' c' W h => by
          have := pdue_any (apply sk e).1 A' c' W h (by have := hss2.1; omega) (by have := hss2.2; omega)
          rwa [valid_iff.2 hv2, if_pos rfl] at this
        have HSP := Lib.hid fun l hl => shipped_paid hv2 (l := l) hl
        have hpd : ¬ due (apply sk e).1 < (apply sk e).1.paid := by have := hv2.paid; omega
        have hrp : ¬ (apply sk e).1.paid < (apply sk e).1.refunded := by have := hv2.refunded; omega
        have hre2 : ¬ (apply sk e).1.events < (apply sk e).1.refused := by have := hv2.refused; omega
        have hll := hv2.len
        generalize (apply sk e).1 = s3 at *
        generalize (apply sk e).2 = why at *
        generalize hD : due s3 = D at *
        clear hss hse hss2 hD hord hv
        have Ho := Lib.hid ho
        have hap := own_apart ho hb
        have hal := alloc_ev
        have hN : G < wr.heap.size := hb.lt
        have hB : ∀ ob, Blk (wr.alloc ob) G 25 (stcells sk A2 c2) := fun ob => BlkA hb
        obtain ⟨ek, eo, ei, eq, ep, ec, et, ew, em, en⟩ := e
        unfold evcells at Hc KA
        unfold ApPost at KA
        dsimp only at Hc KA
        have e0 : wr.cell? ⟨b, o + k * 10, none⟩ = some (.int .i64 ek) := Hc.out 0 _ rfl
        have e1 : wr.cell? ⟨b, o + k * 10 + 1, none⟩ = some (.int .i64 eo) := Hc.out 1 _ rfl
        have e2 : wr.cell? ⟨b, o + k * 10 + 2, none⟩ = some (.int .i64 ei) := Hc.out 2 _ rfl
        have e3 : wr.cell? ⟨b, o + k * 10 + 3, none⟩ = some (.int .i64 eq) := Hc.out 3 _ rfl
        have e4 : wr.cell? ⟨b, o + k * 10 + 4, none⟩ = some (.int .i64 ep) := Hc.out 4 _ rfl
        have e5 : wr.cell? ⟨b, o + k * 10 + 5, none⟩ = some (.int .i64 ec) := Hc.out 5 _ rfl
        have e6 : wr.cell? ⟨b, o + k * 10 + 6, none⟩ = some (.int .i64 et) := Hc.out 6 _ rfl
        have e7 : wr.cell? ⟨b, o + k * 10 + 7, none⟩ = some (.string ew) := Hc.out 7 _ rfl
        have e8 : wr.cell? ⟨b, o + k * 10 + 8, none⟩ = some (.int .i64 em) := Hc.out 8 _ rfl
        have e9 : wr.cell? ⟨b, o + k * 10 + 9, none⟩ = some (.string en) := Hc.out 9 _ rfl
        go_wp2_with (first
          | (with_reducible refine wpL_load_row rfl 25 (.tmp 5) rfl _ 25 _ 12 rfl (hB _) st_wide (stc_size _ _ _) ?_)
          | (go_at_call 27; (with_reducible refine (KA.out _ (Ho.out.rd.ext (by repeat (first | with_reducible exact Below.refl _ _ | with_reducible assumption | with_reducible refine ExtD ?_ | with_reducible refine ExtDN ?_ | with_reducible refine ExtA ?_ | (with_reducible refine ExtR ?_ ?_; (first | omega | (dsimp only; omega) | (simp; done) | (simp; omega))) | (with_reducible refine ExtS ?_ ?_; (first | omega | (dsimp only; omega) | (simp; done) | (simp; omega))) | with_reducible refine Ext.tr ?_ (by with_reducible assumption))))).mono ?_); rintro e2 w2 ⟨A3, c3, rfl, hx2, ho2⟩; have q1 := BlkE (hB _) hx2)
          | (with_reducible refine wpL_store_row rfl 25 (.tmp 5) (.tmp 35) rfl _ 25 _ _ rfl rfl q1 ((stc_size _ _ _).trans (stc_size _ _ _).symm) (stc_one _ _ _) 12 st_wide (stc_size _ _ _) ?_)
          | (with_reducible refine wpL_load_row rfl 25 (.tmp 5) rfl _ 25 _ 12 rfl (Blk.setRow_ q1) st_wide (stc_size _ _ _) ?_)
          | (go_at_call 21; (with_reducible refine (KV.out _ _ _ (OwnRw (own_apart ho2 q1) ho2).rd).mono ?_); rintro e w5 ⟨rfl, hx5⟩; have q5 := BlkE (Blk.setRow_ (ds := stcells s3 A3 c3) q1) hx5; have o5 := (OwnRw (ds := stcells s3 A3 c3) (own_apart ho2 q1) ho2).mono hx5; have p0 : w5.cell? ⟨G, 0, none⟩ = some (.int .i64 s3.order) := q5.cell 0; have p6 : w5.cell? ⟨G, 6, none⟩ = some (.int .i64 s3.paid) := q5.cell 6; have p7 : w5.cell? ⟨G, 7, none⟩ = some (.int .i64 s3.refunded) := q5.cell 7; have p8 : w5.cell? ⟨G, 8, none⟩ = some (.int .i64 s3.events) := q5.cell 8; have p9 : w5.cell? ⟨G, 9, none⟩ = some (.int .i64 s3.refused) := q5.cell 9; have p5 : w5.cell? ⟨G, 5, none⟩ = some (.slice A3 s3.lines.length c3) := q5.cell 5))
        have hXw : Ext w w5 := (by repeat (first | with_reducible exact Below.refl _ _ | with_reducible assumption | with_reducible refine ExtD ?_ | with_reducible refine ExtDN ?_ | with_reducible refine ExtA ?_ | (with_reducible refine ExtR ?_ ?_; (first | omega | (dsimp only; omega) | (simp; done) | (simp; omega))) | (with_reducible refine ExtS ?_ ?_; (first | omega | (dsimp only; omega) | (simp; done) | (simp; omega))) | with_reducible refine Ext.tr ?_ (by with_reducible assumption)))
        have o5' := own_less (b2 := w.heap.size) o5 (by (first | omega | (dsimp only; omega) | (simp; done) | (simp; omega)))
        clear hx5 hx2 q1 ho2 hb ho Ho hB KA e0 e1 e2 e3 e4 e5 e6 e7 e8 e9 Hc hal hap o5 KV hx
        generalize hmm : s3.lines.length = m at *
        go_loopw [67] (fun c67 wr2 => MiR w5 m c67 wr2) (fun c67 _ => m - (intOf c67).toNat)
        case atStart => exact ⟨0, rfl, by omega, Below.refl _ _⟩
        case round =>
          obtain ⟨j, rfl, hj, hxj⟩ := hrel
          by_cases hjl : j < m
          · obtain ⟨b, o, rfl, hc⟩ := ls_at o5'.rd (show j < s3.lines.length by rw [hmm]; exact hjl)
            have Hc := Lib.hid (range_ext hc hxj)
            have hsp := HSP.out _ (List.getElem_mem (show j < s3.lines.length by rw [hmm]; exact hjl))
            clear hc
            generalize (s3.lines[j]'(by rw [hmm]; exact hjl)) = l at *
            obtain ⟨li, lp, lq, lsh⟩ := l
            unfold lncells at Hc
            dsimp only at Hc hsp
            have e0 : wr.cell? ⟨b, o + j * 4, none⟩ = some (.int .i64 li) := Hc.out 0 _ rfl
            have e1 : wr.cell? ⟨b, o + j * 4 + 1, none⟩ = some (.int .i64 lp) := Hc.out 1 _ rfl
            have e2 : wr.cell? ⟨b, o + j * 4 + 2, none⟩ = some (.int .i64 lq) := Hc.out 2 _ rfl
            have e3 : wr.cell? ⟨b, o + j * 4 + 3, none⟩ = some (.int .i64 lsh) := Hc.out 3 _ rfl
            have hal := alloc_ln
            unfold lncells at hal
            dsimp only at hal
            have hpA : ∀ ob, (wr.alloc ob).cell? ⟨G, 6, none⟩ = some (.int .i64 s3.paid) := fun ob => (BlkA (o := ob) (BlkE q5 hxj)).cell 6
            have hq1 : ¬ lq < lsh := by omega
            by_cases hz : 0 < lsh
            · have hz2 : (s3.paid != D) = false := by rw [hsp.2.2 hz]; simp
              clear hsp
              go_wp2_with fail
              refine And.intro ?_ ?_
              · exact ⟨j + 1, by go_num, by omega, (by repeat (first | with_reducible exact Below.refl _ _ | with_reducible assumption | with_reducible refine ExtD ?_ | with_reducible refine ExtDN ?_ | with_reducible refine ExtA ?_ | (with_reducible refine ExtR ?_ ?_; (first | omega | (dsimp only; omega) | (simp; done) | (simp; omega))) | (with_reducible refine ExtS ?_ ?_; (first | omega | (dsimp only; omega) | (simp; done) | (simp; omega))) | with_reducible refine Ext.tr ?_ (by with_reducible assumption)))⟩
              · simp [intOf]; omega
            · clear hsp
              go_wp2_with fail
              refine And.intro ?_ ?_
              · exact ⟨j + 1, by go_num, by omega, (by repeat (first | with_reducible exact Below.refl _ _ | with_reducible assumption | with_reducible refine ExtD ?_ | with_reducible refine ExtDN ?_ | with_reducible refine ExtA ?_ | (with_reducible refine ExtR ?_ ?_; (first | omega | (dsimp only; omega) | (simp; done) | (simp; omega))) | (with_reducible refine ExtS ?_ ?_; (first | omega | (dsimp only; omega) | (simp; done) | (simp; omega))) | with_reducible refine Ext.tr ?_ (by with_reducible assumption)))⟩
              · simp [intOf]; omega
          · obtain rfl : j = m := by omega
            go_wp2_with fail
            refine And.intro ?_ ?_
            · exact ⟨k + 1, s3, A3, c3, by go_num, by have := Hn.out; omega, (by repeat (first | with_reducible exact Below.refl _ _ | with_reducible assumption | with_reducible refine ExtD ?_ | with_reducible refine ExtDN ?_ | with_reducible refine ExtA ?_ | (with_reducible refine ExtR ?_ ?_; (first | omega | (dsimp only; omega) | (simp; done) | (simp; omega))) | (with_reducible refine ExtS ?_ ?_; (first | omega | (dsimp only; omega) | (simp; done) | (simp; omega))) | with_reducible refine Ext.tr ?_ (by with_reducible assumption))), BlkE q5 hxj, OwnLs.mono o5' hxj, hv2, hor2⟩
            · simp [intOf]; omega
      · obtain rfl : k = n := by omega
        have p0 : wr.cell? ⟨G, 0, none⟩ = some (.int .i64 id) := (hb.cell 0).trans (by rw [← hord]; rfl)
        go_wp2_with fail
        go_ret
        exact ⟨rfl, (by repeat (first | with_reducible exact Below.refl _ _ | with_reducible assumption | with_reducible refine ExtD ?_ | with_reducible refine ExtDN ?_ | with_reducible refine ExtA ?_ | (with_reducible refine ExtR ?_ ?_; (first | omega | (dsimp only; omega) | (simp; done) | (simp; omega))) | (with_reducible refine ExtS ?_ ?_; (first | omega | (dsimp only; omega) | (simp; done) | (simp; omega))) | with_reducible refine Ext.tr ?_ (by with_reducible assumption)))⟩
end Go.Proofs.Ytlpjhnecihhkfaa
