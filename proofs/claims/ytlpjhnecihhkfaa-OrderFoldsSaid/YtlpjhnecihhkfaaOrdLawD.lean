/-
  The walk of OrderForeign.
-/
/-
  Laws for regions that draw their order and are walked by hand: a new empty slice, an append from a slice that reads.
-/
/-
  The walk of OrderCut.
-/
import Derived.Test.YtlpjhnecihhkfaaOrdAe
import Derived.Test.YtlpjhnecihhkfaaOrdLawA
import Derived.Test.YtlpjhnecihhkfaaHand
import Derived.Test.YtlpjhnecihhkfaaOrdN
namespace Go.Proofs.Ytlpjhnecihhkfaa
open Go.RowKit
set_option linter.unusedVariables false
set_option linter.unusedSimpArgs false
theorem el_ev : Elem Try.prog 28 (.agg (evcells ⟨0, 0, 0, 0, 0, 0, 0, ⟨#[]⟩, 0, ⟨#[]⟩⟩)) 10 96 := ⟨by kernel_rfl, rfl, by decide⟩
theorem ev_one1 (e : Ev) : ∀ v ∈ (evcells e).toList, v.oneCell' = true := by
  intro v hv; simp [evcells] at hv; rcases hv with rfl | rfl | rfl | rfl | rfl | rfl | rfl | rfl | rfl | rfl <;> rfl
theorem evCells_one (es : List Ev) : ∀ v ∈ evCells es, v.oneCell' = true := by
  intro v hv
  obtain ⟨e, _, he⟩ := List.mem_flatMap.1 hv
  exact ev_one1 e v he
theorem evCells_app (a b : List Ev) : evCells (a ++ b) = evCells a ++ evCells b := by simp [evCells]
def OwnEs (w : World) (base : Nat) (A : Option Addr) (es : List Ev) (c : Nat) : Prop := w.ownsRow base 28 10 (.slice A es.length c) es.length (evCells es)
theorem OwnEs.rd {w : World} {base : Nat} {A : Option Addr} {c : Nat} {es : List Ev} (h : OwnEs w base A es c) : EsRd w A es := RdN.of_own h
theorem OwnEs.mono {w w' : World} {base c : Nat} {A : Option Addr} {es : List Ev} (h : OwnEs w base A es c) (hx : Ext w w') : OwnEs w' base A es c := World.ownsRow.kept h (ext_grown hx none) (by rcases hA : (Value.slice A es.length c).ownBlock with _ | g; exact .inl rfl; exact .inr (by simp))
theorem rd_one_ev {w : World} {vb : Nat} {e : Ev} (hv : Blk w vb 28 (evcells e)) : RdN w 10 (some ⟨vb, 0, none⟩) 1 (evcells e).toList :=
  ⟨rfl, fun _ => ⟨vb, 0, rfl, fun j u hu => by rw [Nat.zero_add, hv.cell]; simpa using hu⟩⟩
def own (id : Int) (es : List Ev) : List Ev := es.filter fun e => decide (e.order = id)
theorem own_take {id : Int} {es : List Ev} {k : Nat} (hk : k < es.length) : own id (es.take (k + 1)) = if es[k].order = id then own id (es.take k) ++ [es[k]] else own id (es.take k) := by
  unfold own
  rw [List.take_succ_eq_append_getElem hk, List.filter_append]
  by_cases h : es[k].order = id
  · rw [if_pos h]; simp [h]
  · rw [if_neg h]; simp [h]
theorem own_len (id : Int) (es : List Ev) (k : Nat) : (own id (es.take k)).length ≤ k := by
  unfold own
  exact Nat.le_trans (List.length_filter_le _ _) (by rw [List.length_take]; omega)
theorem foreign_apply {s : St} {e : Ev} (h : e.order ≠ s.order) : (apply s e).1 = s := by
  have : judge s e = 1 ∨ judge s e = 2 := by
    unfold judge
    by_cases h1 : validB s = false ∨ check5 e ≠ 0 ∨ s.events = 1099511627776
    · exact .inl (if_pos h1)
    · exact .inr (by rw [if_neg h1, if_pos h])
  unfold apply
  rw [if_pos this]
theorem order_apply_ (s : St) (e : Ev) : (apply s e).1.order = s.order := by
  unfold apply
  split
  · rfl
  split
  · rfl
  · show (rule (bump s e) e).order = s.order
    unfold rule
    repeat' split
    all_goals rfl
theorem fold_own {id : Int} (s : St) (h : s.order = id) (es : List Ev) : fold s es = fold s (own id es) := by
  unfold fold own
  induction es generalizing s with
  | nil => rfl
  | cons e r ih =>
    rw [List.foldl_cons, List.filter_cons]
    by_cases he : e.order = id
    · rw [if_pos (by simpa using he), List.foldl_cons]
      exact ih _ ((order_apply_ s e).trans h)
    · rw [if_neg (by simpa using he), foreign_apply (by rw [h]; exact he)]
      exact ih s h
theorem sm_no (id : Int) : StSm (noSt id) := ⟨Nat.zero_le _, Nat.zero_le _⟩
def FrR (w : World) (id : Int) (es : List Ev) (c5 c14 : Value) (wr : World) : Prop :=
  ∃ (k : Nat) (A : Option Addr) (c : Nat), c14 = .int .i64 (k : Nat) ∧ k ≤ es.length ∧ c5 = .slice A (own id (es.take k)).length c ∧ Ext w wr ∧ OwnEs wr w.heap.size A (own id (es.take k)) c
set_option maxRecDepth 100000 in
set_option maxHeartbeats 4000000 in
theorem orderForeign_walk (id : Int) (B : Option Addr) (cb : Nat) (es : List Ev) (w : World) (hid : I64' id) (hre : EsRd w B es) (hel : es.length * 96 ≤ 140737488351232) (hes : ∀ e ∈ es, EvWf e) :
    Calls Try.prog 10 #[.int .i64 id, .slice B es.length cb] w fun e w' => e = .returned (.bool true) ∧ Ext w w' := by
  have K0 := Lib.hid head_any
  have K1 := Lib.hid fun W => empty_any id W
  have Hes := Lib.hid hes
  obtain ⟨n, hnn⟩ : ∃ n, n = es.length := ⟨_, rfl⟩
  rw [← hnn] at hel ⊢
  have Hn := Lib.hid hnn
  clear hnn hes
  go_enter Try.func10, Try.ntmps10
  go_wp2_with (go_at_call 20; (with_reducible refine (K0.out _).mono ?_); rintro e w1 ⟨rfl, hx1⟩)
  go_loopw [5, 14] (fun c5 c14 wr => FrR w id es c5 c14 wr) (fun _ c14 _ => n - (intOf c14).toNat)
  case atStart => exact ⟨0, some ⟨w1.heap.size, 0, none⟩, 0, rfl, by omega, rfl, exA, by
    have h1 := hx1.size
    exact World.ownsRow_made w1 (base := w.heap.size) (e := 28) (size := 10) #[] 0 h1 (by decide) (by simp)⟩
  case round =>
    obtain ⟨k, A2, c2, rfl, hk, rfl, hx, ho⟩ := hrel
    rw [← Hn.out] at hk
    have hol := own_len id es k
    by_cases hlt : k < n
    · obtain ⟨b, o, rfl, hc⟩ := es_at hre (show k < es.length by rw [← Hn.out]; exact hlt)
      have Hc := Lib.hid (range_ext hc hx)
      have hot := own_take (id := id) (show k < es.length by rw [← Hn.out]; exact hlt)
      clear hc
      generalize es[k]'(by rw [← Hn.out]; exact hlt) = e at *
      have H1 := Lib.hid (ev_one1 e)
      have hal := alloc_ev
      obtain ⟨ek, eo, ei, eq, ep, ec, et, ew, em, en⟩ := e
      have Hev : Hid (evCells [(⟨ek, eo, ei, eq, ep, ec, et, ew, em, en⟩ : Ev)] = #[.int .i64 ek, .int .i64 eo, .int .i64 ei, .int .i64 eq, .int .i64 ep, .int .i64 ec, .int .i64 et, .string ew, .int .i64 em, .string en].toList) := Lib.hid rfl
      unfold evcells at Hc H1
      dsimp only at Hc H1 hot
      have e0 : wr.cell? ⟨b, o + k * 10, none⟩ = some (.int .i64 ek) := Hc.out 0 _ rfl
      have e1 : wr.cell? ⟨b, o + k * 10 + 1, none⟩ = some (.int .i64 eo) := Hc.out 1 _ rfl
      have e2 : wr.cell? ⟨b, o + k * 10 + 2, none⟩ = some (.int .i64 ei) := Hc.out 2 _ rfl
      have e3 : wr.cell? ⟨b, o + k * 10 + 3, none⟩ = some (.int .i64 eq) := Hc.out 3 _ rfl
      have e4 : wr.cell? ⟨b, o + k * 10 + 4, none⟩ = some (.int .i64 ep) := Hc.out 4 _ rfl
      have e5 : wr.cell? ⟨b, o + k * 10 + 5, none⟩ = some (.int .i64 ec) := Hc.out 5 _ rfl
      have e6 : wr.cell? ⟨b, o + k * 10 + 6, none⟩ = some (.int .i64 et) := Hc.out 6 _ rfl
      have e7 : wr.cell? ⟨b, o + k * 10 + 7, none⟩ = some (.string ew) := Hc.out 7 _ rfl
      have e8 : wr.cell? ⟨b, o + k * 10 + 8, none⟩ = some (.int .i64 em) := Hc.out 8 _ rfl
      have e9 : wr.cell? ⟨b, o + k * 10 + 9, none⟩ = some (.string en) := Hc.out 9 _ rfl
      by_cases heo : eo = id
      · rw [if_pos heo] at hot
        have ht : (eo == id) = true := by simp; exact heo
        have hl2 : (own id (es.take (k + 1))).length = (own id (es.take k)).length + 1 := by rw [hot]; simp
        have hcc : evCells (own id (es.take k)) ++ #[.int .i64 ek, .int .i64 eo, .int .i64 ei, .int .i64 eq, .int .i64 ep, .int .i64 ec, .int .i64 et, .string ew, .int .i64 em, .string en].toList = evCells (own id (es.take (k + 1))) := by rw [hot, evCells_app, Hev.out]
        have Hcc := Lib.hid hcc
        have Hl2 := Lib.hid hl2
        clear hot hcc hl2 heo
        have hN : w.heap.size ≤ wr.heap.size := hx.size
        unfold OwnEs at ho
        generalize (own id (es.take k)).length = m at *
        generalize evCells (own id (es.take k)) = xs at *
        have Hown := Lib.hid ho
        clear ho
        have hA1 : ∀ ob1 ob2, Hid (World.ownsRow ((wr.alloc ob1).alloc ob2) w.heap.size 28 10 (.slice A2 m c2) m xs) := fun ob1 ob2 => Lib.hid ((Hown.out.alloc _).alloc _)
        have hA2 : ∀ ob1, Hid (RdN ((wr.alloc ob1).alloc (.cells #[.int .i64 ek, .int .i64 eo, .int .i64 ei, .int .i64 eq, .int .i64 ep, .int .i64 ec, .int .i64 et, .string ew, .int .i64 em, .string en] 28)) 10 (some ⟨wr.heap.size + 1, 0, none⟩) 1 #[.int .i64 ek, .int .i64 eo, .int .i64 ei, .int .i64 eq, .int .i64 ep, .int .i64 ec, .int .i64 et, .string ew, .int .i64 em, .string en].toList) := fun ob1 => Lib.hid (rd_one_ev (e := ⟨ek, eo, ei, eq, ep, ec, et, ew, em, en⟩) (BlkN (by simp)))
        go_wp2_with (at_builtin; go_must (refine wpL_append rfl (.tmp 22) (.tmp 24) 49 rfl w.heap.size 28 _ 10 96 Try.underlying49 el_ev (.slice A2 m c2) _ _ rfl (hA1 _ _).out _ _ _ _ rfl (hA2 _).out H1.out _ _ rfl Hcc.out (by simp only [maxLen]; omega) (by omega) (by simp; omega) ?_); intro v' w2 hown' hg' hb'; obtain ⟨A3, c3, rfl⟩ := own_slice hown')
        refine And.intro ?_ ?_
        · refine ⟨k + 1, A3, c3, by go_num, by have := Hn.out; omega, by rw [Hl2.out], Ext.grown exA hg' (fun r hr => (World.ownsRow.lt Hown.out r hr).1), ?_⟩
          unfold OwnEs
          rw [Hl2.out]
          exact hown'
        · simp [intOf]; omega
      · rw [if_neg heo] at hot
        have ht : (eo == id) = false := by simp; exact heo
        rw [← hot] at ho
        have hlen : (own id (es.take (k + 1))).length = (own id (es.take k)).length := by rw [hot]
        have Hlen := Lib.hid hlen
        clear hot hlen heo
        go_wp2_with fail
        refine And.intro ?_ ?_
        · exact ⟨k + 1, A2, c2, by go_num, by have := Hn.out; omega, by rw [Hlen.out], exA, OwnEs.mono ho (by repeat (first | with_reducible exact Below.refl _ _ | with_reducible refine ExtD ?_ | with_reducible refine ExtA ?_))⟩
        · simp [intOf]; omega
    · obtain rfl : k = n := by omega
      have htk : es.take k = es := List.take_of_length_le (by have := Hn.out; omega)
      rw [htk] at ho hol ⊢
      have hfo := fold_own (id := id) (noSt id) rfl es
      have hsm := sm_fold es (sm_no id)
      have hes1 : ∀ e ∈ es, EvSm e := fun e he => ev_sm (Hes.out e he)
      have hes2 : ∀ e ∈ own id es, EvSm e := fun e he => ev_sm (Hes.out e (List.mem_filter.1 he).1)
      have KF1 := Lib.hid fun W A8 c8 (h : EsRd W A8 es) => fold_any (noSt id) es none A8 0 c8 W (RdN.nil_ _ _ _) h (sm_no id) hes1 (by rw [← Hn.out]; omega)
      have KF2 := Lib.hid fun W (h : EsRd W A2 (own id es)) => fold_any (noSt id) (own id es) none A2 0 c2 W (RdN.nil_ _ _ _) h (sm_no id) hes2 (by omega)
      have KS := Lib.hid fun A8 c8 A9 c9 W (h : LsRd W A8 (fold (noSt id) es).lines) (h2 : LsRd W A9 (fold (noSt id) es).lines) => same_any (fold (noSt id) es) A8 A9 c8 c9 W h h2 (by have := hsm.1; omega)
      rw [← hfo] at KF2
      clear hfo hsm hes1 hes2
      generalize fold (noSt id) es = sF at *
      unfold FoPost at KF1 KF2
      rw [← Hn.out] at KF1
      have H1s := Lib.hid (evCells_one es)
      have Hre : Hid (RdN w 10 B k (evCells es)) := Lib.hid (by have := hre; unfold EsRd at this; rwa [← Hn.out] at this)
      go_wp2_with (first
        | (go_at_call 14; (with_reducible refine (K1.out _).mono ?_); rintro e w2 ⟨rfl, hx2⟩)
        | (at_builtin; go_must (refine wpL_copy rfl (.tmp 29) (.tmp 30) 49 rfl 28 _ 10 96 Try.underlying49 el_ev _ _ _ _ rfl rfl (Hre.out.ext exA) H1s.out (by omega) (by simp only [maxLen]; omega) ?_); intro A7 c7 w7 hx7 hown7; have hE7 : EsRd w7 A7 es := (by have h := RdN.of_own hown7; unfold EsRd; rw [← Hn.out]; exact h))
        | (go_at_call 28; (with_reducible refine (KF1.out _ _ _ hE7).mono ?_); rintro e w9 ⟨A8, c8, rfl, hx9, ho8⟩)
        | (with_reducible refine wpL_store_row rfl 25 (.tmp 8) (.tmp 32) rfl _ 25 _ _ rfl rfl (BlkN rfl) ((stc_size _ _ _).trans (st_size' _ _ _ _ _ _ _ _ _ _ _ _ _ _).symm) (stc_one _ _ _) 12 st_wide (stc_size _ _ _) ?_))
      have hG : w.heap.size ≤ w9.heap.size := by have h1 := hx.size; have h2 := hx2.size; have h3 := hx7.size; have h4 := hx9.size; omega
      have b8 := Blk.setRow_ (ds := stcells sF A8 c8) (BlkN (w := w9) (cs := #[.int .i64 0, .int .i64 0, .int .i64 0, .int .i64 0, .int .i64 0, .slice none 0 0, .int .i64 0, .int .i64 0, .int .i64 0, .int .i64 0, .int .i64 0, .string ⟨#[]⟩]) (t := 25) rfl)
      have hX8 : Ext w ((w9.alloc (.cells #[.int .i64 0, .int .i64 0, .int .i64 0, .int .i64 0, .int .i64 0, .slice none 0 0, .int .i64 0, .int .i64 0, .int .i64 0, .int .i64 0, .int .i64 0, .string ⟨#[]⟩] 25)).setRow w9.heap.size (stcells sF A8 c8)) := exA
      have o8 : LsRd ((w9.alloc (.cells #[.int .i64 0, .int .i64 0, .int .i64 0, .int .i64 0, .int .i64 0, .slice none 0 0, .int .i64 0, .int .i64 0, .int .i64 0, .int .i64 0, .int .i64 0, .string ⟨#[]⟩] 25)).setRow w9.heap.size (stcells sF A8 c8)) A8 sF.lines := (OwnRw (ds := stcells sF A8 c8) (own_apart (OwnA (o := .cells #[.int .i64 0, .int .i64 0, .int .i64 0, .int .i64 0, .int .i64 0, .slice none 0 0, .int .i64 0, .int .i64 0, .int .i64 0, .int .i64 0, .int .i64 0, .string ⟨#[]⟩] 25) ho8) (BlkN rfl)) (OwnA (o := .cells #[.int .i64 0, .int .i64 0, .int .i64 0, .int .i64 0, .int .i64 0, .slice none 0 0, .int .i64 0, .int .i64 0, .int .i64 0, .int .i64 0, .int .i64 0, .string ⟨#[]⟩] 25) ho8)).rd
      have hle9 : wr.heap.size ≤ w9.heap.size := by have h2 := hx2.size; have h3 := hx7.size; have h4 := hx9.size; omega
      have hXr : Ext wr ((w9.alloc (.cells #[.int .i64 0, .int .i64 0, .int .i64 0, .int .i64 0, .int .i64 0, .slice none 0 0, .int .i64 0, .int .i64 0, .int .i64 0, .int .i64 0, .int .i64 0, .string ⟨#[]⟩] 25)).setRow w9.heap.size (stcells sF A8 c8)) := exA
      have oE : EsRd ((w9.alloc (.cells #[.int .i64 0, .int .i64 0, .int .i64 0, .int .i64 0, .int .i64 0, .slice none 0 0, .int .i64 0, .int .i64 0, .int .i64 0, .int .i64 0, .int .i64 0, .string ⟨#[]⟩] 25)).setRow w9.heap.size (stcells sF A8 c8)) A2 (own id es) := EsRd.ext ho.rd hXr
      clear hx2 hx7 hown7 hE7 hx9 ho8 hx ho hle9 hXr KF1 Hre H1s
      generalize (w9.alloc (.cells #[.int .i64 0, .int .i64 0, .int .i64 0, .int .i64 0, .int .i64 0, .slice none 0 0, .int .i64 0, .int .i64 0, .int .i64 0, .int .i64 0, .int .i64 0, .string ⟨#[]⟩] 25)).setRow w9.heap.size (stcells sF A8 c8) = w8 at *
      generalize w9.heap.size = G at *
      have HS := Lib.hid (fun w' (h : Ext w8 w') => (⟨h, (BlkE b8 h).cell 0, (BlkE b8 h).cell 1, (BlkE b8 h).cell 2, (BlkE b8 h).cell 3, (BlkE b8 h).cell 4, (BlkE b8 h).cell 5, (BlkE b8 h).cell 6, (BlkE b8 h).cell 7, (BlkE b8 h).cell 8, (BlkE b8 h).cell 9, (BlkE b8 h).cell 10, (BlkE b8 h).cell 11⟩ : (fun w' : World => Ext w8 w' ∧ w'.cell? ⟨G, 0, none⟩ = some (.int .i64 sF.order) ∧ w'.cell? ⟨G, 1, none⟩ = some (.int .i64 sF.status) ∧ w'.cell? ⟨G, 2, none⟩ = some (.int .i64 sF.prior) ∧ w'.cell? ⟨G, 3, none⟩ = some (.int .i64 sF.cur) ∧ w'.cell? ⟨G, 4, none⟩ = some (.int .i64 sF.tax) ∧ w'.cell? ⟨G, 5, none⟩ = some (.slice A8 sF.lines.length c8) ∧ w'.cell? ⟨G, 6, none⟩ = some (.int .i64 sF.paid) ∧ w'.cell? ⟨G, 7, none⟩ = some (.int .i64 sF.refunded) ∧ w'.cell? ⟨G, 8, none⟩ = some (.int .i64 sF.events) ∧ w'.cell? ⟨G, 9, none⟩ = some (.int .i64 sF.refused) ∧ w'.cell? ⟨G, 10, none⟩ = some (.int .i64 sF.stamp) ∧ w'.cell? ⟨G, 11, none⟩ = some (.string sF.who)) w'))
      unfold stcells at KS KF2 K1
      go_region_held3 (fun w' : World => Ext w8 w' ∧ w'.cell? ⟨G, 0, none⟩ = some (.int .i64 sF.order) ∧ w'.cell? ⟨G, 1, none⟩ = some (.int .i64 sF.status) ∧ w'.cell? ⟨G, 2, none⟩ = some (.int .i64 sF.prior) ∧ w'.cell? ⟨G, 3, none⟩ = some (.int .i64 sF.cur) ∧ w'.cell? ⟨G, 4, none⟩ = some (.int .i64 sF.tax) ∧ w'.cell? ⟨G, 5, none⟩ = some (.slice A8 sF.lines.length c8) ∧ w'.cell? ⟨G, 6, none⟩ = some (.int .i64 sF.paid) ∧ w'.cell? ⟨G, 7, none⟩ = some (.int .i64 sF.refunded) ∧ w'.cell? ⟨G, 8, none⟩ = some (.int .i64 sF.events) ∧ w'.cell? ⟨G, 9, none⟩ = some (.int .i64 sF.refused) ∧ w'.cell? ⟨G, 10, none⟩ = some (.int .i64 sF.stamp) ∧ w'.cell? ⟨G, 11, none⟩ = some (.string sF.who)) (exact HS.out _ exA) (first
        | (go_at_call 14; (with_reducible refine (K1.out _).mono ?_); rintro e w2 ⟨rfl, hx2⟩)
        | (go_at_call 28; (with_reducible refine (KF2.out _ (oE.ext exA)).mono ?_); rintro e w3 ⟨A9, c9, rfl, hx9, ho9⟩)
        | (go_at_call 23; (with_reducible refine (KS.out _ _ _ _ _ (o8.ext exA) (ho9.rd.ext exA)).mono ?_); rintro e w4 ⟨rfl, hx4⟩))
      go_wp2_with fail
      go_ret
      exact ⟨rfl, exA⟩
end Go.Proofs.Ytlpjhnecihhkfaa

namespace Go.Proofs.Ytlpjhnecihhkfaa
open Go.RowKit
set_option linter.unusedVariables false
set_option linter.unusedSimpArgs false
section
variable {P : Program} {w : World} {ops : Array Oper} {o : Oper} {a : Act} {K : Act → World → Prop} {Q : Exit → Act → World → Prop} {E : Prop}
theorem step_append_rd (hg : o.guard = none) (d : Option Tmp) (hd : o.dst = d) (s x : Operand) (t : TypeId) (hop : o.op = Op.call { callee := Callee.builtin Builtin.append, args := #[s, x], argTypes := #[t, t] })
    (base : Nat) (e : TypeId) (z : Value) (size bytes : Nat) (h1 : P.underlying t = some (.slice e)) (he : Elem P e z size bytes)
    (v : Value) (n : Nat) (xs : List Value) (hs : a.eval s = v) (hown : w.ownsRow base e size v n xs)
    (A : Option Addr) (m c : Nat) (news : List Value) (hx : a.eval x = .slice A m c) (hr : RdN w size A m news) (h1c : ∀ u ∈ news, u.oneCell' = true)
    (b1 : n + m ≤ maxLen) (b2 : (n + m) * bytes ≤ 140737488355328) (hbase : base ≤ w.heap.size)
    (hK : ∀ v' w', w'.ownsRow base e size v' (n + m) (xs ++ news) → w.grownBy w' v.ownBlock → K (a.put d v') w') :
    if Region.wanted o (yielded ops a.tmps) = true then Oper.wp P o a w K Q else E := by
  subst hd
  have hw : Region.wanted o (yielded ops a.tmps) = true := by simp [Region.wanted, hg]
  rw [if_pos hw]
  obtain ⟨v', w', hrun, r1, r2, _⟩ := run_append_rd (P := P) base t o.type e z size bytes h1 he v n xs hown A m c news hr h1c b1 b2 hbase
  unfold Oper.wp
  simp [execOp, hop, resolve, invoke, builtin, hs, hx, hrun, Result.andThen]
  exact hK v' w' r1 r2
theorem step_new0 (hgd : o.guard = none) (d : Option Tmp) (hd : o.dst = d) (t e : TypeId) (ho : o.op = .buildSlice t 0 #[])
    (hz : ∀ w, (Instr.buildSlice t 0 #[]).run P w = .ok (.slice (some ⟨w.heap.size, 0, none⟩) 0 0) (w.alloc (.cells #[] e)))
    (hK : ∀ g w', w.heap.size ≤ g → Ext w w' → Blk w' g e #[] → K (a.put d (.slice (some ⟨g, 0, none⟩) 0 0)) w') :
    if Region.wanted o (yielded ops a.tmps) = true then Oper.wp P o a w K Q else E := by
  subst hd
  have hwt : Region.wanted o (yielded ops a.tmps) = true := by simp [Region.wanted, hgd]
  rw [if_pos hwt]
  unfold Oper.wp execOp
  simp only [ho, List.map_toArray, List.map_nil, Sem.run_bind, hz w, Result.andThen_ok, Sem.run_pure]
  exact hK _ _ (Nat.le_refl _) (ExtA (Ext.rfl' w)) (BlkN rfl)
end
theorem alloc_st0 (w : World) : (Instr.alloc 25 true (.tuple #[])).run Try.prog w = .ok (.pointer (some ⟨w.heap.size, 0, none⟩)) (w.alloc (.cells #[.int .i64 0, .int .i64 0, .int .i64 0, .int .i64 0, .int .i64 0, .slice none 0 0, .int .i64 0, .int .i64 0, .int .i64 0, .int .i64 0, .int .i64 0, .string ⟨#[]⟩] 25)) := by kernel_rfl
end Go.Proofs.Ytlpjhnecihhkfaa

namespace Go.Proofs.Ytlpjhnecihhkfaa
open Go.RowKit
set_option linter.unusedVariables false
set_option linter.unusedSimpArgs false
theorem fold_app (s : St) (a b : List Ev) : fold s (a ++ b) = fold (fold s a) b := by unfold fold; rw [List.foldl_append]
theorem evCells_take (es : List Ev) (k : Nat) : evCells (es.take k) = (evCells es).take (k * 10) := by
  induction es generalizing k with
  | nil => simp [evCells]
  | cons e r ih =>
    cases k with
    | zero => simp [evCells]
    | succ k =>
      rw [List.take_succ_cons]
      show (evcells e).toList ++ evCells (r.take k) = ((evcells e).toList ++ evCells r).take ((k + 1) * 10)
      rw [ih, show (k + 1) * 10 = (evcells e).toList.length + k * 10 by simp [evcells]; omega, List.take_length_add_append]
theorem evCells_drop (es : List Ev) (k : Nat) : evCells (es.drop k) = (evCells es).drop (k * 10) := by
  induction es generalizing k with
  | nil => simp [evCells]
  | cons e r ih =>
    cases k with
    | zero => simp [evCells]
    | succ k =>
      rw [List.drop_succ_cons]
      show evCells (r.drop k) = ((evcells e).toList ++ evCells r).drop ((k + 1) * 10)
      rw [ih, show (k + 1) * 10 = (evcells e).toList.length + k * 10 by simp [evcells]; omega, List.drop_length_add_append]
/-- The head of a slice of events. -/
theorem es_head_rd {w : World} {B : Option Addr} {es : List Ev} {k : Nat} (h : EsRd w B es) (hk : k ≤ es.length) : RdN w 10 B k (evCells (es.take k)) := by
  refine ⟨by rw [evCells_len, List.length_take]; omega, fun h0 => ?_⟩
  obtain ⟨b, o, rfl, hc⟩ := h.2 (by omega)
  refine ⟨b, o, rfl, fun j u hu => hc j u ?_⟩
  rw [evCells_take, List.getElem?_take] at hu
  split at hu
  · exact hu
  · cases hu
/-- The tail of a slice of events, wherever the model lets it begin. -/
theorem es_tail_rd {w : World} {b o : Nat} {es : List Ev} {k : Nat} (h : EsRd w (some ⟨b, o, none⟩) es) (hk : k ≤ es.length) (A : Option Addr) (hA : k < es.length → A = some ⟨b, o + k * 10, none⟩) : RdN w 10 A (es.length - k) (evCells (es.drop k)) := by
  refine ⟨by rw [evCells_len, List.length_drop], fun h0 => ?_⟩
  refine ⟨b, o + k * 10, hA (by omega), fun j u hu => ?_⟩
  obtain ⟨b', o', he, hc⟩ := h.2 (by omega)
  cases he
  rw [evCells_drop, List.getElem?_drop] at hu
  rw [Nat.add_assoc]
  exact hc _ u hu
end Go.Proofs.Ytlpjhnecihhkfaa
