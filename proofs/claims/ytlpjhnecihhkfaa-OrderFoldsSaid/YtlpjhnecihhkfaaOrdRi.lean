/-
  The walk of the reference's with: the lines with more of an item.
-/
/-
  The walk of the reference's Apply: what is refused.
-/
import Derived.Test.YtlpjhnecihhkfaaOrdRe
import Derived.Test.YtlpjhnecihhkfaaOrdAe
import Derived.Test.YtlpjhnecihhkfaaOrdRh
namespace Go.Proofs.Ytlpjhnecihhkfaa
open Go.RowKit
set_option linter.unusedVariables false
set_option linter.unusedSimpArgs false
def goR (item price q : Int) (d : Bool) (r : List Ln) : List Ln := if d then r else more item price q r
theorem goR_end (item price q : Int) (d : Bool) : goR item price q d [] = if d then [] else [⟨item, price, q, 0⟩] := by cases d <;> rfl
theorem goR_a {item price q : Int} {l : Ln} {r : List Ln} (h : item < l.item) : goR item price q false (l :: r) = ⟨item, price, q, 0⟩ :: l :: r := by
  show more item price q (l :: r) = _
  unfold more
  rw [if_pos h]
theorem goR_b {item price q : Int} {l : Ln} {r : List Ln} (h : l.item = item) : goR item price q false (l :: r) = if 0 < l.qty + q then ⟨l.item, l.price, l.qty + q, l.shipped⟩ :: r else r := by
  show more item price q (l :: r) = _
  unfold more
  rw [if_neg (by omega), if_pos h]
theorem goR_c {item price q : Int} {l : Ln} {r : List Ln} (h : l.item < item) : goR item price q false (l :: r) = l :: goR item price q false r := by
  show more item price q (l :: r) = l :: more item price q r
  rw [more, if_neg (by omega), if_neg (by omega)]
theorem rises_drop {b : Int} {ls : List Ln} (h : risesB b ls = true) (k : Nat) : ∃ b', risesB b' (ls.drop k) = true := by
  induction k generalizing b ls with
  | zero => exact ⟨b, h⟩
  | succ k ih =>
    cases ls with
    | nil => exact ⟨b, h⟩
    | cons l r => exact ih (rises_cons.1 h).2.2
/-- The line at a place of lines that rise, and those behind it. -/
theorem drop_at {ls : List Ln} {k : Nat} (h : risesB (-1) ls = true) (hk : k < ls.length) : ls.drop k = ls[k] :: ls.drop (k + 1) ∧ ∀ x ∈ ls.drop (k + 1), ls[k].item < x.item := by
  have hd := List.drop_eq_getElem_cons hk
  refine ⟨hd, ?_⟩
  obtain ⟨b', hb⟩ := rises_drop h k
  rw [hd] at hb
  exact fun x hx => (rises_mem (rises_cons.1 hb).2.2 x hx).2
def WiR (W0 : World) (base : Nat) (ls T : List Ln) (item price q : Int) (c7 c8 c15 : Value) (wr : World) : Prop :=
  ∃ (k : Nat) (A : Option Addr) (c : Nat) (out : List Ln) (d : Bool), c15 = .int .i64 (k : Nat) ∧ c8 = .bool d ∧ c7 = .slice A out.length c ∧ k ≤ ls.length ∧ Ext W0 wr ∧ OwnLs wr base A out c ∧ out ++ goR item price q d (ls.drop k) = T ∧ (d = true → ∀ l ∈ ls.drop k, item < l.item)
def WiPost (w : World) (T : List Ln) (e' : Ending) (w' : World) : Prop := ∃ A c, e' = .returned (.slice A T.length c) ∧ Ext w w' ∧ OwnLs w' w.heap.size A T c
theorem app_len {a b T : List Ln} (h : a ++ b = T) (hT : T.length ≤ 17) : a.length + b.length ≤ 17 := by rw [← h, List.length_append] at hT; exact hT
theorem own_push {w : World} {base c n : Nat} {A : Option Addr} {out : List Ln} {l : Ln} (h : w.ownsRow base 48 4 (.slice A n c) n (lnCells out ++ (lncells l).toList)) (hn : n = out.length + 1) : OwnLs w base A (out ++ [l]) c := by
  subst hn
  unfold OwnLs
  rw [lnCells_app, lnCells_one1, List.length_append]
  exact h
theorem own_push2 {w : World} {base c n : Nat} {A : Option Addr} {out : List Ln} {l l2 : Ln} (h : w.ownsRow base 48 4 (.slice A n c) n (lnCells out ++ (lncells l).toList ++ (lncells l2).toList)) (hn : n = out.length + 1 + 1) : OwnLs w base A (out ++ [l] ++ [l2]) c := by
  have h2 : w.ownsRow base 48 4 (.slice A n c) n (lnCells (out ++ [l]) ++ (lncells l2).toList) := by rw [lnCells_app, lnCells_one1]; exact h
  exact own_push h2 (by rw [hn, List.length_append]; rfl)
set_option maxRecDepth 100000 in
set_option maxHeartbeats 8000000 in
theorem with_any (s : St) (e : Ev) (q : Int) (A : Option Addr) (c : Nat) (w : World) (hr : LsRd w A s.lines) (hv : VOk s) (hq : -10000 ≤ q ∧ q ≤ 10000) :
    Calls Try.prog 46 #[.agg (stcells s A c), .agg (evcells e), .int .i64 q] w (WiPost w (more e.item e.price q s.lines)) := by
  have hln := hv.len
  have hlb : ∀ l ∈ s.lines, 1 ≤ l.qty ∧ l.qty ≤ 100000 := fun l hl => (lnB_iff.1 (rises_mem hv.rises l hl).1).2.2.1
  have hris := hv.rises
  obtain ⟨T, hT⟩ : ∃ T, T = more e.item e.price q s.lines := ⟨_, rfl⟩
  have hTl : T.length ≤ 17 := by rw [hT]; have := (more_len e.item e.price q s.lines).1; omega
  have HT := Lib.hid hT
  have HTl := Lib.hid hTl
  have Hlb := Lib.hid hlb
  have Hris := Lib.hid hris
  rw [← hT]
  clear hT hTl hlb hris hv
  obtain ⟨order, status, prior, cur, tax, ls, paid, refunded, events, refused, stamp, who⟩ := s
  obtain ⟨ek, eo, ei, eq, ep, ec, et, ew, es, en⟩ := e
  unfold WiPost
  unfold stcells evcells at *
  dsimp only at *
  obtain ⟨n, hnn⟩ : ∃ n, n = ls.length := ⟨_, rfl⟩
  rw [← hnn] at hln ⊢
  have HN := Lib.hid hnn
  clear hnn
  have HS := Lib.hid (fun w' (h : Ext ((w.alloc (.cells #[.int .i64 order, .int .i64 status, .int .i64 prior, .int .i64 cur, .int .i64 tax, .slice A n c, .int .i64 paid, .int .i64 refunded, .int .i64 events, .int .i64 refused, .int .i64 stamp, .string who] 25)).alloc (.cells #[.int .i64 ek, .int .i64 eo, .int .i64 ei, .int .i64 eq, .int .i64 ep, .int .i64 ec, .int .i64 et, .string ew, .int .i64 es, .string en] 28)) w') => (⟨h, (Ext.blk h (BlkA (BlkN rfl))).cell 0, (Ext.blk h (BlkA (BlkN rfl))).cell 1, (Ext.blk h (BlkA (BlkN rfl))).cell 2, (Ext.blk h (BlkA (BlkN rfl))).cell 3, (Ext.blk h (BlkA (BlkN rfl))).cell 4, (Ext.blk h (BlkA (BlkN rfl))).cell 5, (Ext.blk h (BlkA (BlkN rfl))).cell 6, (Ext.blk h (BlkA (BlkN rfl))).cell 7, (Ext.blk h (BlkA (BlkN rfl))).cell 8, (Ext.blk h (BlkA (BlkN rfl))).cell 9, (Ext.blk h (BlkA (BlkN rfl))).cell 10, (Ext.blk h (BlkA (BlkN rfl))).cell 11, (Ext.blk h (BlkN (by simp))).cell 0, (Ext.blk h (BlkN (by simp))).cell 1, (Ext.blk h (BlkN (by simp))).cell 2, (Ext.blk h (BlkN (by simp))).cell 3, (Ext.blk h (BlkN (by simp))).cell 4, (Ext.blk h (BlkN (by simp))).cell 5, (Ext.blk h (BlkN (by simp))).cell 6, (Ext.blk h (BlkN (by simp))).cell 7, (Ext.blk h (BlkN (by simp))).cell 8, (Ext.blk h (BlkN (by simp))).cell 9⟩ : (fun w' : World => Ext ((w.alloc (.cells #[.int .i64 order, .int .i64 status, .int .i64 prior, .int .i64 cur, .int .i64 tax, .slice A n c, .int .i64 paid, .int .i64 refunded, .int .i64 events, .int .i64 refused, .int .i64 stamp, .string who] 25)).alloc (.cells #[.int .i64 ek, .int .i64 eo, .int .i64 ei, .int .i64 eq, .int .i64 ep, .int .i64 ec, .int .i64 et, .string ew, .int .i64 es, .string en] 28)) w' ∧ w'.cell? ⟨w.heap.size, 0, none⟩ = some (.int .i64 order) ∧ w'.cell? ⟨w.heap.size, 1, none⟩ = some (.int .i64 status) ∧ w'.cell? ⟨w.heap.size, 2, none⟩ = some (.int .i64 prior) ∧ w'.cell? ⟨w.heap.size, 3, none⟩ = some (.int .i64 cur) ∧ w'.cell? ⟨w.heap.size, 4, none⟩ = some (.int .i64 tax) ∧ w'.cell? ⟨w.heap.size, 5, none⟩ = some (.slice A n c) ∧ w'.cell? ⟨w.heap.size, 6, none⟩ = some (.int .i64 paid) ∧ w'.cell? ⟨w.heap.size, 7, none⟩ = some (.int .i64 refunded) ∧ w'.cell? ⟨w.heap.size, 8, none⟩ = some (.int .i64 events) ∧ w'.cell? ⟨w.heap.size, 9, none⟩ = some (.int .i64 refused) ∧ w'.cell? ⟨w.heap.size, 10, none⟩ = some (.int .i64 stamp) ∧ w'.cell? ⟨w.heap.size, 11, none⟩ = some (.string who) ∧ w'.cell? ⟨w.heap.size + 1, 0, none⟩ = some (.int .i64 ek) ∧ w'.cell? ⟨w.heap.size + 1, 1, none⟩ = some (.int .i64 eo) ∧ w'.cell? ⟨w.heap.size + 1, 2, none⟩ = some (.int .i64 ei) ∧ w'.cell? ⟨w.heap.size + 1, 3, none⟩ = some (.int .i64 eq) ∧ w'.cell? ⟨w.heap.size + 1, 4, none⟩ = some (.int .i64 ep) ∧ w'.cell? ⟨w.heap.size + 1, 5, none⟩ = some (.int .i64 ec) ∧ w'.cell? ⟨w.heap.size + 1, 6, none⟩ = some (.int .i64 et) ∧ w'.cell? ⟨w.heap.size + 1, 7, none⟩ = some (.string ew) ∧ w'.cell? ⟨w.heap.size + 1, 8, none⟩ = some (.int .i64 es) ∧ w'.cell? ⟨w.heap.size + 1, 9, none⟩ = some (.string en)) w'))
  go_enter Try.func46, Try.ntmps46
  go_wp2_with fail
  go_loopw [7, 8, 15] (fun c7 c8 c15 wr => WiR ((w.alloc (.cells #[.int .i64 order, .int .i64 status, .int .i64 prior, .int .i64 cur, .int .i64 tax, .slice A n c, .int .i64 paid, .int .i64 refunded, .int .i64 events, .int .i64 refused, .int .i64 stamp, .string who] 25)).alloc (.cells #[.int .i64 ek, .int .i64 eo, .int .i64 ei, .int .i64 eq, .int .i64 ep, .int .i64 ec, .int .i64 et, .string ew, .int .i64 es, .string en] 28)) (w.heap.size + 1 + 1) ls T ei ep q c7 c8 c15 wr) (fun _ _ c15 _ => n - (intOf c15).toNat)
  case atStart => exact ⟨0, some ⟨w.heap.size + 1 + 1, 0, none⟩, 0, [], false, rfl, rfl, rfl, by omega, exA, own_of_cells (by omega) (cur := #[]) (BlkN (by simp)) (Nat.zero_le _) (by decide) rfl rfl, by rw [HT.out]; rfl, fun h => by cases h⟩
  case round =>
    obtain ⟨k, A2, c2, out, d, rfl, rfl, rfl, hk, hx, hown, hout, hd⟩ := hrel
    rw [← HN.out] at hk
    have hX0 : Ext w wr := Ext.tr (ExtA (ExtA (Ext.rfl' w))) hx
    have hwz : w.heap.size + 1 + 1 ≤ wr.heap.size := by have := hx.size; simpa using this
    have h3 := HS.out wr hx
    go_split_ands
    by_cases hlt : k < n
    · obtain ⟨b, o, rfl, hc⟩ := ls_at hr (show k < ls.length by rw [← HN.out]; exact hlt)
      have Hc := Lib.hid (range_ext hc hX0)
      have hkn : (k : Int) < (n : Int) := by omega
      have hk0 : (0 : Int) ≤ (k : Int) := by omega
      obtain ⟨hdr, hgt⟩ := drop_at Hris.out (show k < ls.length by rw [← HN.out]; exact hlt)
      have hq1 := Hlb.out _ (List.getElem_mem (show k < ls.length by rw [← HN.out]; exact hlt))
      have hmem : ls[k]'(by rw [← HN.out]; exact hlt) ∈ ls.drop k := by rw [hdr]; exact List.mem_cons_self ..
      rw [hdr] at hout hd
      clear hc hdr hmem
      generalize ls[k]'(by rw [← HN.out]; exact hlt) = l at *
      obtain ⟨li, lp, lq, lsh⟩ := l
      unfold lncells at Hc
      dsimp only at *
      have e0 : wr.cell? ⟨b, o + k * 4, none⟩ = some (.int .i64 li) := Hc.out 0 _ rfl
      have e1 : wr.cell? ⟨b, o + k * 4 + 1, none⟩ = some (.int .i64 lp) := Hc.out 1 _ rfl
      have e2 : wr.cell? ⟨b, o + k * 4 + 2, none⟩ = some (.int .i64 lq) := Hc.out 2 _ rfl
      have e3 : wr.cell? ⟨b, o + k * 4 + 3, none⟩ = some (.int .i64 lsh) := Hc.out 3 _ rfl
      have hw1 : IntKind.i64.wrap (lq + q) = lq + q := by rw [IntKind.wrap_i64]; omega
      have g2 : ∀ ob, (wr.alloc ob).cell? ⟨w.heap.size + 1, 2, none⟩ = some (.int .i64 ei) := fun ob => (Ext.blk (ExtA hx) (BlkN (by simp))).cell 2
      have g4 : ∀ ob, (wr.alloc ob).cell? ⟨w.heap.size + 1, 4, none⟩ = some (.int .i64 ep) := fun ob => (Ext.blk (ExtA hx) (BlkN (by simp))).cell 4
      obtain ⟨m, hm⟩ : ∃ m, m = out.length := ⟨_, rfl⟩
      rw [← hm]
      have hown0 : World.ownsRow wr (w.heap.size + 1 + 1) 48 4 (.slice A2 m c2) m (lnCells out) := by rw [hm]; exact hown
      have Hm := Lib.hid hm
      have Hown := Lib.hid hown0
      clear hown hown0 hm
      have H1 := Lib.hid (ln_one ⟨li, lp, lq, lsh⟩)
      have H2 := Lib.hid (ln_one ⟨ei, ep, q, 0⟩)
      have H3 := Lib.hid (ln_one ⟨li, lp, lq + q, lsh⟩)
      unfold lncells at H1 H2 H3
      dsimp only at H1 H2 H3
      have hA1 : ∀ ob1 ob2, Hid (World.ownsRow ((wr.alloc ob1).alloc ob2) (w.heap.size + 1 + 1) 48 4 (.slice A2 m c2) m (lnCells out)) := fun ob1 ob2 => Lib.hid ((Hown.out.alloc _).alloc _)
      have hA2 : ∀ ob1, Hid (RdN ((wr.alloc ob1).alloc (.cells #[.int .i64 li, .int .i64 lp, .int .i64 lq, .int .i64 lsh] 48)) 4 (some ⟨wr.heap.size + 1, 0, none⟩) 1 #[.int .i64 li, .int .i64 lp, .int .i64 lq, .int .i64 lsh].toList) := fun ob1 => Lib.hid (rd_one (l := ⟨li, lp, lq, lsh⟩) (BlkN (by simp)))
      have hA3 : ∀ ob1, Hid (RdN ((wr.alloc ob1).alloc (.cells #[.int .i64 ei, .int .i64 ep, .int .i64 q, .int .i64 0] 48)) 4 (some ⟨wr.heap.size + 1, 0, none⟩) 1 #[.int .i64 ei, .int .i64 ep, .int .i64 q, .int .i64 0].toList) := fun ob1 => Lib.hid (rd_one (l := ⟨ei, ep, q, 0⟩) (BlkN (by simp)))
      have hA4 : ∀ ob1, Hid (RdN ((wr.alloc ob1).alloc (.cells #[.int .i64 li, .int .i64 lp, .int .i64 (lq + q), .int .i64 lsh] 48)) 4 (some ⟨wr.heap.size + 1, 0, none⟩) 1 #[.int .i64 li, .int .i64 lp, .int .i64 (lq + q), .int .i64 lsh].toList) := fun ob1 => Lib.hid (rd_one (l := ⟨li, lp, lq + q, lsh⟩) (BlkN (by simp)))
      cases d with
      | true =>
        have hil := hd rfl _ (List.mem_cons_self ..)
        dsimp only at hil
        have i1 : (li == ei) = false := by simp; omega
        have hq0 : 0 < lq := by omega
        have hol := app_len hout HTl.out
        have Hout := Lib.hid hout
        have Hgt := Lib.hid hgt
        clear hout hd hgt
        simp only [goR, if_true, List.length_cons] at hol
        rw [← Hm.out] at hol
        go_wp2_with (at_builtin; go_must (refine wpL_append rfl (.tmp 54) (.tmp 56) 23 rfl (w.heap.size + 1 + 1) 48 _ 4 32 Try.underlying23 el_ln (.slice A2 m c2) _ _ rfl (hA1 _ _).out _ _ _ _ rfl (hA2 _).out H1.out _ _ rfl rfl (by simp only [maxLen]; omega) (by omega) (by simp; omega) ?_); intro v' w2 hown' hg' hb'; obtain ⟨A3, c3, rfl⟩ := own_slice hown')
        refine And.intro ?_ ?_
        · exact ⟨k + 1, A3, c3, out ++ [⟨li, lp, lq, lsh⟩], true, by go_num, rfl, by rw [List.length_append, ← Hm.out]; rfl, by rw [← HN.out]; omega, Ext.grown exA hg' (fun r hr => by have := (World.ownsRow.lt Hown.out r hr).1; simpa using this), own_push hown' (by rw [Hm.out]), by rw [List.append_assoc]; exact Hout.out, fun _ x hx => by have := Hgt.out x hx; omega⟩
        · simp [intOf]; omega
      | false =>
        rcases Int.lt_trichotomy li ei with hlt2 | heq | hgt2
        · have hg1 : goR ei ep q false (⟨li, lp, lq, lsh⟩ :: ls.drop (k + 1)) = ⟨li, lp, lq, lsh⟩ :: goR ei ep q false (ls.drop (k + 1)) := goR_c hlt2
          rw [hg1] at hout
          have i1 : (li == ei) = false := by simp; omega
          have i2 : ¬ ei < li := by omega
          have hq0 : 0 < lq := by omega
          have hol := app_len hout HTl.out
          have Hout := Lib.hid hout
          clear hout hd hgt hg1
          simp only [List.length_cons] at hol
          rw [← Hm.out] at hol
          go_wp2_with (at_builtin; go_must (refine wpL_append rfl (.tmp 54) (.tmp 56) 23 rfl (w.heap.size + 1 + 1) 48 _ 4 32 Try.underlying23 el_ln (.slice A2 m c2) _ _ rfl (hA1 _ _).out _ _ _ _ rfl (hA2 _).out H1.out _ _ rfl rfl (by simp only [maxLen]; omega) (by omega) (by simp; omega) ?_); intro v' w2 hown' hg' hb'; obtain ⟨A3, c3, rfl⟩ := own_slice hown')
          refine And.intro ?_ ?_
          · exact ⟨k + 1, A3, c3, out ++ [⟨li, lp, lq, lsh⟩], false, by go_num, rfl, by rw [List.length_append, ← Hm.out]; rfl, by rw [← HN.out]; omega, Ext.grown exA hg' (fun r hr => by have := (World.ownsRow.lt Hown.out r hr).1; simpa using this), own_push hown' (by rw [Hm.out]), by rw [List.append_assoc]; exact Hout.out, fun h => by cases h⟩
          · simp [intOf]; omega
        · have hg1 : goR ei ep q false (⟨li, lp, lq, lsh⟩ :: ls.drop (k + 1)) = if 0 < lq + q then ⟨li, lp, lq + q, lsh⟩ :: ls.drop (k + 1) else ls.drop (k + 1) := goR_b heq
          rw [hg1] at hout
          have i1 : (li == ei) = true := by simp; omega
          have i2 : ¬ ei < li := by omega
          have Heq := Lib.hid heq
          have Hgt := Lib.hid hgt
          clear hd hgt hg1 heq
          by_cases hp : 0 < lq + q
          · rw [if_pos hp] at hout
            have hol := app_len hout HTl.out
            have Hout := Lib.hid hout
            clear hout
            simp only [List.length_cons] at hol
            rw [← Hm.out] at hol
            go_wp2_with (at_builtin; go_must (refine wpL_append rfl (.tmp 54) (.tmp 56) 23 rfl (w.heap.size + 1 + 1) 48 _ 4 32 Try.underlying23 el_ln (.slice A2 m c2) _ _ rfl (hA1 _ _).out _ _ _ _ rfl (hA4 _).out H3.out _ _ rfl rfl (by simp only [maxLen]; omega) (by omega) (by simp; omega) ?_); intro v' w2 hown' hg' hb'; obtain ⟨A3, c3, rfl⟩ := own_slice hown')
            refine And.intro ?_ ?_
            · exact ⟨k + 1, A3, c3, out ++ [⟨li, lp, lq + q, lsh⟩], true, by go_num, rfl, by rw [List.length_append, ← Hm.out]; rfl, by rw [← HN.out]; omega, Ext.grown exA hg' (fun r hr => by have := (World.ownsRow.lt Hown.out r hr).1; simpa using this), own_push hown' (by rw [Hm.out]), by rw [List.append_assoc]; exact Hout.out, fun _ x hx => by have := Hgt.out x hx; have := Heq.out; omega⟩
            · simp [intOf]; omega
          · rw [if_neg hp] at hout
            have Hout := Lib.hid hout
            clear hout
            go_wp2_with fail
            refine And.intro ?_ ?_
            · exact ⟨k + 1, A2, c2, out, true, by go_num, rfl, by rw [Hm.out], by rw [← HN.out]; omega, exA, (by have h := Hown.out.alloc (.cells #[.int .i64 li, .int .i64 lp, .int .i64 (lq + q), .int .i64 lsh] 48); unfold OwnLs; rw [← Hm.out]; exact h), Hout.out, fun _ x hx => by have := Hgt.out x hx; have := Heq.out; omega⟩
            · simp [intOf]; omega
        · have hg1 : goR ei ep q false (⟨li, lp, lq, lsh⟩ :: ls.drop (k + 1)) = ⟨ei, ep, q, 0⟩ :: ⟨li, lp, lq, lsh⟩ :: ls.drop (k + 1) := goR_a hgt2
          rw [hg1] at hout
          have i1 : (li == ei) = false := by simp; omega
          have hq0 : 0 < lq := by omega
          have hol := app_len hout HTl.out
          have Hout := Lib.hid hout
          have Hgt := Lib.hid hgt
          clear hout hd hgt hg1
          simp only [List.length_cons] at hol
          rw [← Hm.out] at hol
          go_wp2_with (first
            | (at_builtin; (refine wpL_append rfl (.tmp 32) (.tmp 39) 23 rfl (w.heap.size + 1 + 1) 48 _ 4 32 Try.underlying23 el_ln (.slice A2 m c2) _ _ rfl (hA1 _ _).out _ _ _ _ rfl (hA3 _).out H2.out _ _ rfl rfl (by simp only [maxLen]; omega) (by omega) (by simp; omega) ?_); intro v' w2 hown' hg' hb'; obtain ⟨A3, c3, rfl⟩ := own_slice hown'
               ((have q2 : Blk w2 wr.heap.size 48 #[.int .i64 li, .int .i64 lp, .int .i64 lq, .int .i64 lsh] := BlkG (BlkA (BlkN rfl)) hg' (fun h => by have := (World.ownsRow.lt Hown.out _ h.symm).2; omega); have hX2 : Ext ((w.alloc (.cells #[.int .i64 order, .int .i64 status, .int .i64 prior, .int .i64 cur, .int .i64 tax, .slice (some ⟨b, o, none⟩) n c, .int .i64 paid, .int .i64 refunded, .int .i64 events, .int .i64 refused, .int .i64 stamp, .string who] 25)).alloc (.cells #[.int .i64 ek, .int .i64 eo, .int .i64 ei, .int .i64 eq, .int .i64 ep, .int .i64 ec, .int .i64 et, .string ew, .int .i64 es, .string en] 28)) w2 := Ext.grown exA hg' (fun r hr => by have := (World.ownsRow.lt Hown.out r hr).1; simpa using this); have hz2 : wr.heap.size + 1 ≤ w2.heap.size := (by have := q2.lt; omega); have h3 := HS.out w2 hX2; go_split_ands; have f0 := q2.cell 0; have f1 := q2.cell 1; have f2 := q2.cell 2; have f3 := q2.cell 3)))
            | (at_builtin; (refine wpL_append rfl (.tmp 54) (.tmp 56) 23 rfl (w.heap.size + 1 + 1) 48 _ 4 32 Try.underlying23 el_ln (.slice A3 (m + 1) c3) _ _ rfl (hown'.alloc _) _ _ _ _ rfl (rd_one (l := ⟨li, lp, lq, lsh⟩) (BlkN rfl)) H1.out _ _ rfl rfl (by simp only [maxLen]; omega) (by omega) (by simp; omega) ?_); intro v' w4 hown4 hg4 hb4; obtain ⟨A4, c4, rfl⟩ := own_slice hown4))
          refine And.intro ?_ ?_
          · exact ⟨k + 1, A4, c4, out ++ [⟨ei, ep, q, 0⟩] ++ [⟨li, lp, lq, lsh⟩], true, by go_num, rfl, by rw [List.length_append, List.length_append, ← Hm.out]; rfl, by rw [← HN.out]; omega, Ext.grown (show Ext _ (w2.alloc _) from exA) hg4 (fun r hr => by have := (World.ownsRow.lt hown' r hr).1; simpa using this), own_push2 hown4 (by rw [Hm.out]), by rw [List.append_assoc, List.append_assoc]; exact Hout.out, fun _ x hx => by have := Hgt.out x hx; omega⟩
          · simp [intOf]; omega
    · obtain rfl : k = n := by omega
      have hdn : ls.drop k = [] := List.drop_eq_nil_of_le (by rw [← HN.out]; exact Nat.le_refl _)
      rw [hdn, goR_end] at hout
      cases d with
      | true =>
        simp at hout
        subst hout
        go_wp2_with fail
        go_ret
        exact ⟨A2, c2, rfl, Ext.tr hX0 (Ext.rfl' _), own_less hown (by omega)⟩
      | false =>
        simp at hout
        obtain ⟨m, hm⟩ : ∃ m, m = out.length := ⟨_, rfl⟩
        have hol := app_len hout HTl.out
        have hown0 : World.ownsRow wr (w.heap.size + 1 + 1) 48 4 (.slice A2 m c2) m (lnCells out) := by rw [hm]; exact hown
        rw [← hm] at hol ⊢
        have Hm := Lib.hid hm
        have Hout := Lib.hid hout
        have Hown := Lib.hid hown0
        have H2 := Lib.hid (ln_one ⟨ei, ep, q, 0⟩)
        unfold lncells at H2
        dsimp only at H2
        clear hown hown0 hm hout hd
        have hA1 : ∀ ob1, Hid (World.ownsRow (wr.alloc ob1) (w.heap.size + 1 + 1) 48 4 (.slice A2 m c2) m (lnCells out)) := fun ob1 => Lib.hid (Hown.out.alloc _)
        have hA3 : Hid (RdN (wr.alloc (.cells #[.int .i64 ei, .int .i64 ep, .int .i64 q, .int .i64 0] 48)) 4 (some ⟨wr.heap.size, 0, none⟩) 1 #[.int .i64 ei, .int .i64 ep, .int .i64 q, .int .i64 0].toList) := Lib.hid (rd_one (l := ⟨ei, ep, q, 0⟩) (BlkN rfl))
        go_wp2_with (at_builtin; go_must (refine wpL_append rfl (.tmp 61) (.tmp 68) 23 rfl (w.heap.size + 1 + 1) 48 _ 4 32 Try.underlying23 el_ln (.slice A2 m c2) _ _ rfl (hA1 _).out _ _ _ _ rfl hA3.out H2.out _ _ rfl rfl (by simp only [maxLen]; omega) (by omega) (by simp; omega) ?_); intro v' w2 hown' hg' hb'; obtain ⟨A3, c3, rfl⟩ := own_slice hown')
        go_ret
        refine ⟨A3, c3, ?_, Ext.grown (show Ext w (wr.alloc _) from exA) hg' (fun r hr => by have := (World.ownsRow.lt Hown.out r hr).1; omega), ?_⟩
        · rw [← Hout.out, List.length_append, ← Hm.out]; rfl
        · rw [← Hout.out]; exact own_less (own_push hown' (by rw [Hm.out])) (by omega)
end Go.Proofs.Ytlpjhnecihhkfaa

namespace Go.Proofs.Ytlpjhnecihhkfaa
open Go.RowKit
set_option linter.unusedVariables false
set_option linter.unusedSimpArgs false
set_option maxRecDepth 100000 in
set_option maxHeartbeats 4000000 in
theorem rapply_a (s : St) (e : Ev) (A : Option Addr) (c : Nat) (w : World) (hr : LsRd w A s.lines) (hn : s.lines.length ≤ 4398046510976) (hw1 : s.who.size ≤ 4611686018427387904) (hw2 : e.who.size ≤ 4611686018427387904) (hw3 : e.note.size ≤ 4611686018427387904) (hJ : judge s e = 1 ∨ judge s e = 2) :
    Calls Try.prog 26 #[.agg (stcells s A c), .agg (evcells e)] w (ApPost w s (judge s e)) := by
  have K3 := Lib.hid fun W (h : LsRd W A s.lines) => scopy_any s A c W h (by omega)
  have KJ := Lib.hid fun W (h : LsRd W A s.lines) => rjudge_any s e A c W h (by omega) hw1 hw2 hw3
  clear hn hw1 hw2 hw3
  generalize judge s e = J at *
  obtain ⟨order, status, prior, cur, tax, ls, paid, refunded, events, refused, stamp, who⟩ := s
  obtain ⟨ek, eo, ei, eq, ep, ec, et, ew, es, en⟩ := e
  unfold CopPost at K3
  unfold stcells evcells at *
  unfold ApPost stcells
  dsimp only at *
  have Hnn : Hid (∃ n, n = ls.length) := Lib.hid ⟨_, rfl⟩
  obtain ⟨n, hnn⟩ := Hnn.out
  rw [← hnn] at K3 KJ ⊢
  clear hnn Hnn
  have HS := Lib.hid (fun w' (h : Ext (((w.alloc (.cells #[.int .i64 order, .int .i64 status, .int .i64 prior, .int .i64 cur, .int .i64 tax, .slice A n c, .int .i64 paid, .int .i64 refunded, .int .i64 events, .int .i64 refused, .int .i64 stamp, .string who] 25)).alloc (.cells #[.int .i64 ek, .int .i64 eo, .int .i64 ei, .int .i64 eq, .int .i64 ep, .int .i64 ec, .int .i64 et, .string ew, .int .i64 es, .string en] 28)).alloc (.cells #[.int .i64 0, .int .i64 0, .int .i64 0, .int .i64 0, .int .i64 0, .slice none 0 0, .int .i64 0, .int .i64 0, .int .i64 0, .int .i64 0, .int .i64 0, .string ⟨#[]⟩] 25)) w') => (⟨h, (Ext.blk h (BlkA (BlkA (BlkN rfl)))).cell 0, (Ext.blk h (BlkA (BlkA (BlkN rfl)))).cell 1, (Ext.blk h (BlkA (BlkA (BlkN rfl)))).cell 2, (Ext.blk h (BlkA (BlkA (BlkN rfl)))).cell 3, (Ext.blk h (BlkA (BlkA (BlkN rfl)))).cell 4, (Ext.blk h (BlkA (BlkA (BlkN rfl)))).cell 5, (Ext.blk h (BlkA (BlkA (BlkN rfl)))).cell 6, (Ext.blk h (BlkA (BlkA (BlkN rfl)))).cell 7, (Ext.blk h (BlkA (BlkA (BlkN rfl)))).cell 8, (Ext.blk h (BlkA (BlkA (BlkN rfl)))).cell 9, (Ext.blk h (BlkA (BlkA (BlkN rfl)))).cell 10, (Ext.blk h (BlkA (BlkA (BlkN rfl)))).cell 11, (Ext.blk h (BlkA (BlkN (by simp)))).cell 0, (Ext.blk h (BlkA (BlkN (by simp)))).cell 1, (Ext.blk h (BlkA (BlkN (by simp)))).cell 2, (Ext.blk h (BlkA (BlkN (by simp)))).cell 3, (Ext.blk h (BlkA (BlkN (by simp)))).cell 4, (Ext.blk h (BlkA (BlkN (by simp)))).cell 5, (Ext.blk h (BlkA (BlkN (by simp)))).cell 6, (Ext.blk h (BlkA (BlkN (by simp)))).cell 7, (Ext.blk h (BlkA (BlkN (by simp)))).cell 8, (Ext.blk h (BlkA (BlkN (by simp)))).cell 9⟩ : (fun w' : World => Ext (((w.alloc (.cells #[.int .i64 order, .int .i64 status, .int .i64 prior, .int .i64 cur, .int .i64 tax, .slice A n c, .int .i64 paid, .int .i64 refunded, .int .i64 events, .int .i64 refused, .int .i64 stamp, .string who] 25)).alloc (.cells #[.int .i64 ek, .int .i64 eo, .int .i64 ei, .int .i64 eq, .int .i64 ep, .int .i64 ec, .int .i64 et, .string ew, .int .i64 es, .string en] 28)).alloc (.cells #[.int .i64 0, .int .i64 0, .int .i64 0, .int .i64 0, .int .i64 0, .slice none 0 0, .int .i64 0, .int .i64 0, .int .i64 0, .int .i64 0, .int .i64 0, .string ⟨#[]⟩] 25)) w' ∧ w'.cell? ⟨w.heap.size, 0, none⟩ = some (.int .i64 order) ∧ w'.cell? ⟨w.heap.size, 1, none⟩ = some (.int .i64 status) ∧ w'.cell? ⟨w.heap.size, 2, none⟩ = some (.int .i64 prior) ∧ w'.cell? ⟨w.heap.size, 3, none⟩ = some (.int .i64 cur) ∧ w'.cell? ⟨w.heap.size, 4, none⟩ = some (.int .i64 tax) ∧ w'.cell? ⟨w.heap.size, 5, none⟩ = some (.slice A n c) ∧ w'.cell? ⟨w.heap.size, 6, none⟩ = some (.int .i64 paid) ∧ w'.cell? ⟨w.heap.size, 7, none⟩ = some (.int .i64 refunded) ∧ w'.cell? ⟨w.heap.size, 8, none⟩ = some (.int .i64 events) ∧ w'.cell? ⟨w.heap.size, 9, none⟩ = some (.int .i64 refused) ∧ w'.cell? ⟨w.heap.size, 10, none⟩ = some (.int .i64 stamp) ∧ w'.cell? ⟨w.heap.size, 11, none⟩ = some (.string who) ∧ w'.cell? ⟨w.heap.size + 1, 0, none⟩ = some (.int .i64 ek) ∧ w'.cell? ⟨w.heap.size + 1, 1, none⟩ = some (.int .i64 eo) ∧ w'.cell? ⟨w.heap.size + 1, 2, none⟩ = some (.int .i64 ei) ∧ w'.cell? ⟨w.heap.size + 1, 3, none⟩ = some (.int .i64 eq) ∧ w'.cell? ⟨w.heap.size + 1, 4, none⟩ = some (.int .i64 ep) ∧ w'.cell? ⟨w.heap.size + 1, 5, none⟩ = some (.int .i64 ec) ∧ w'.cell? ⟨w.heap.size + 1, 6, none⟩ = some (.int .i64 et) ∧ w'.cell? ⟨w.heap.size + 1, 7, none⟩ = some (.string ew) ∧ w'.cell? ⟨w.heap.size + 1, 8, none⟩ = some (.int .i64 es) ∧ w'.cell? ⟨w.heap.size + 1, 9, none⟩ = some (.string en)) w'))
  have hjj : ((J : Int) == 1) = true ∨ ((J : Int) == 1) = false ∧ ((J : Int) == 2) = true := by rcases hJ with rfl | rfl <;> simp
  clear hJ
  rcases hjj with hj1 | ⟨hj1, hj2⟩
  all_goals
    go_enter Try.func26, Try.ntmps26
    go_wp2_with (first | (go_at_call 15; (with_reducible refine (K3.out _ (hr.ext exA)).mono ?_); rintro e w1 ⟨A1, c1, rfl, hx1, ho1⟩; have hG : w.heap.size + 1 + 1 + 1 ≤ w1.heap.size := (by have := hx1.size; simpa using this); have hn0 : ¬ (w.heap.size = w1.heap.size) := (by omega); have hn1 : ¬ (w1.heap.size = w.heap.size) := (by omega); have hn2 : ¬ (w.heap.size + 1 = w1.heap.size) := (by omega); have hn3 : ¬ (w1.heap.size = w.heap.size + 1) := (by omega); have hn4 : ¬ (w.heap.size + 1 + 1 = w1.heap.size) := (by omega); have hn5 : ¬ (w1.heap.size = w.heap.size + 1 + 1) := (by omega); have h3 := HS.out (w1.alloc (.cells #[.int .i64 order, .int .i64 status, .int .i64 prior, .int .i64 cur, .int .i64 tax, .slice A1 n c1, .int .i64 paid, .int .i64 refunded, .int .i64 events, .int .i64 refused, .int .i64 stamp, .string who] 25)) (ExtA hx1); go_split_ands) | (go_at_call 25; (with_reducible refine (KJ.out _ (hr.ext exA)).mono ?_); rintro e w2 ⟨rfl, hx2⟩; have d6 : Blk w2 w1.heap.size 25 #[.int .i64 order, .int .i64 status, .int .i64 prior, .int .i64 cur, .int .i64 tax, .slice A1 n c1, .int .i64 paid, .int .i64 refunded, .int .i64 events, .int .i64 refused, .int .i64 stamp, .string who] := BlkE (BlkN rfl) hx2; have d4 : Blk w2 (w.heap.size + 1 + 1) 25 #[.int .i64 0, .int .i64 0, .int .i64 0, .int .i64 0, .int .i64 0, .slice none 0 0, .int .i64 0, .int .i64 0, .int .i64 0, .int .i64 0, .int .i64 0, .string ⟨#[]⟩] := BlkE (BlkA (BlkE (BlkN (by simp)) hx1)) hx2; have o2 : OwnLs w2 (w.heap.size + 1 + 1 + 1) A1 ls c1 := own_less (OwnLs.mono (OwnA ho1) hx2) (by simp); have HN := Lib.hid (own_apart o2 d6); have HN4 := Lib.hid (own_apart o2 d4); have Ho := Lib.hid o2; have h3 := HS.out w2 (Ext.tr (ExtA hx1) hx2); go_split_ands; (have p0 : World.cell? w2 ⟨w1.heap.size, 0, none⟩ = some (.int .i64 order) := Blk.cell d6 0; have p1 : World.cell? w2 ⟨w1.heap.size, 1, none⟩ = some (.int .i64 status) := Blk.cell d6 1; have p2 : World.cell? w2 ⟨w1.heap.size, 2, none⟩ = some (.int .i64 prior) := Blk.cell d6 2; have p3 : World.cell? w2 ⟨w1.heap.size, 3, none⟩ = some (.int .i64 cur) := Blk.cell d6 3; have p4 : World.cell? w2 ⟨w1.heap.size, 4, none⟩ = some (.int .i64 tax) := Blk.cell d6 4; have p5 : World.cell? w2 ⟨w1.heap.size, 5, none⟩ = some _ := Blk.cell d6 5; have p6 : World.cell? w2 ⟨w1.heap.size, 6, none⟩ = some (.int .i64 paid) := Blk.cell d6 6; have p7 : World.cell? w2 ⟨w1.heap.size, 7, none⟩ = some (.int .i64 refunded) := Blk.cell d6 7; have p8 : World.cell? w2 ⟨w1.heap.size, 8, none⟩ = some (.int .i64 events) := Blk.cell d6 8; have p9 : World.cell? w2 ⟨w1.heap.size, 9, none⟩ = some (.int .i64 refused) := Blk.cell d6 9; have p10 : World.cell? w2 ⟨w1.heap.size, 10, none⟩ = some (.int .i64 stamp) := Blk.cell d6 10; have p11 : World.cell? w2 ⟨w1.heap.size, 11, none⟩ = some (.string who) := Blk.cell d6 11); have y1 := d6.frozen 1; have y2 := d6.frozen 2; have y3 := d6.frozen 3; have y4 := d6.frozen 4; have y5 := d6.frozen 5; have y6 := d6.frozen 6; have y7 := d6.frozen 7; have y8 := d6.frozen 8; have y9 := d6.frozen 9; have y10 := d6.frozen 10; have y11 := d6.frozen 11) | (with_reducible refine wpL_store_row rfl 25 (.tmp 4) (.tmp 20) rfl _ 25 _ _ rfl rfl d4 ((st_size' _ _ _ _ _ _ _ _ _ _ _ _ _ _).trans (st_size' _ _ _ _ _ _ _ _ _ _ _ _ _ _).symm) (st_one' _ _ _ _ _ _ _ _ _ _ _ _ _ _) 12 st_wide (st_size' _ _ _ _ _ _ _ _ _ _ _ _ _ _) ?_))
    refine bodyPost_ret (res_row_t rfl _ _ 25 _ 12 _ rfl rfl (Blk.setRow_ d4) st_wide rfl) rfl ?_
    exact ⟨A1, c1, rfl, exA, own_less (OwnRw HN4.out o2) (by omega)⟩
set_option maxRecDepth 100000 in
set_option maxHeartbeats 4000000 in
theorem rapply_b (s : St) (e : Ev) (A : Option Addr) (c : Nat) (w : World) (hr : LsRd w A s.lines) (hn : s.lines.length ≤ 4398046510976) (hw1 : s.who.size ≤ 4611686018427387904) (hw2 : e.who.size ≤ 4611686018427387904) (hw3 : e.note.size ≤ 4611686018427387904) (hJ : judge s e ≠ 0 ∧ judge s e ≠ 1 ∧ judge s e ≠ 2) (hev : 0 ≤ s.events ∧ s.events ≤ 1099511627776) (hrf : 0 ≤ s.refused ∧ s.refused ≤ 1099511627776) :
    Calls Try.prog 26 #[.agg (stcells s A c), .agg (evcells e)] w (ApPost w { s with events := s.events + 1, refused := s.refused + 1 } (judge s e)) := by
  have K3 := Lib.hid fun W (h : LsRd W A s.lines) => scopy_any s A c W h (by omega)
  have KJ := Lib.hid fun W (h : LsRd W A s.lines) => rjudge_any s e A c W h (by omega) hw1 hw2 hw3
  clear hn hw1 hw2 hw3
  generalize judge s e = J at *
  obtain ⟨order, status, prior, cur, tax, ls, paid, refunded, events, refused, stamp, who⟩ := s
  obtain ⟨ek, eo, ei, eq, ep, ec, et, ew, es, en⟩ := e
  unfold CopPost at K3
  unfold stcells evcells at *
  unfold ApPost stcells
  dsimp only at *
  have Hnn : Hid (∃ n, n = ls.length) := Lib.hid ⟨_, rfl⟩
  obtain ⟨n, hnn⟩ := Hnn.out
  rw [← hnn] at K3 KJ ⊢
  clear hnn Hnn
  have HS := Lib.hid (fun w' (h : Ext (((w.alloc (.cells #[.int .i64 order, .int .i64 status, .int .i64 prior, .int .i64 cur, .int .i64 tax, .slice A n c, .int .i64 paid, .int .i64 refunded, .int .i64 events, .int .i64 refused, .int .i64 stamp, .string who] 25)).alloc (.cells #[.int .i64 ek, .int .i64 eo, .int .i64 ei, .int .i64 eq, .int .i64 ep, .int .i64 ec, .int .i64 et, .string ew, .int .i64 es, .string en] 28)).alloc (.cells #[.int .i64 0, .int .i64 0, .int .i64 0, .int .i64 0, .int .i64 0, .slice none 0 0, .int .i64 0, .int .i64 0, .int .i64 0, .int .i64 0, .int .i64 0, .string ⟨#[]⟩] 25)) w') => (⟨h, (Ext.blk h (BlkA (BlkA (BlkN rfl)))).cell 0, (Ext.blk h (BlkA (BlkA (BlkN rfl)))).cell 1, (Ext.blk h (BlkA (BlkA (BlkN rfl)))).cell 2, (Ext.blk h (BlkA (BlkA (BlkN rfl)))).cell 3, (Ext.blk h (BlkA (BlkA (BlkN rfl)))).cell 4, (Ext.blk h (BlkA (BlkA (BlkN rfl)))).cell 5, (Ext.blk h (BlkA (BlkA (BlkN rfl)))).cell 6, (Ext.blk h (BlkA (BlkA (BlkN rfl)))).cell 7, (Ext.blk h (BlkA (BlkA (BlkN rfl)))).cell 8, (Ext.blk h (BlkA (BlkA (BlkN rfl)))).cell 9, (Ext.blk h (BlkA (BlkA (BlkN rfl)))).cell 10, (Ext.blk h (BlkA (BlkA (BlkN rfl)))).cell 11, (Ext.blk h (BlkA (BlkN (by simp)))).cell 0, (Ext.blk h (BlkA (BlkN (by simp)))).cell 1, (Ext.blk h (BlkA (BlkN (by simp)))).cell 2, (Ext.blk h (BlkA (BlkN (by simp)))).cell 3, (Ext.blk h (BlkA (BlkN (by simp)))).cell 4, (Ext.blk h (BlkA (BlkN (by simp)))).cell 5, (Ext.blk h (BlkA (BlkN (by simp)))).cell 6, (Ext.blk h (BlkA (BlkN (by simp)))).cell 7, (Ext.blk h (BlkA (BlkN (by simp)))).cell 8, (Ext.blk h (BlkA (BlkN (by simp)))).cell 9⟩ : (fun w' : World => Ext (((w.alloc (.cells #[.int .i64 order, .int .i64 status, .int .i64 prior, .int .i64 cur, .int .i64 tax, .slice A n c, .int .i64 paid, .int .i64 refunded, .int .i64 events, .int .i64 refused, .int .i64 stamp, .string who] 25)).alloc (.cells #[.int .i64 ek, .int .i64 eo, .int .i64 ei, .int .i64 eq, .int .i64 ep, .int .i64 ec, .int .i64 et, .string ew, .int .i64 es, .string en] 28)).alloc (.cells #[.int .i64 0, .int .i64 0, .int .i64 0, .int .i64 0, .int .i64 0, .slice none 0 0, .int .i64 0, .int .i64 0, .int .i64 0, .int .i64 0, .int .i64 0, .string ⟨#[]⟩] 25)) w' ∧ w'.cell? ⟨w.heap.size, 0, none⟩ = some (.int .i64 order) ∧ w'.cell? ⟨w.heap.size, 1, none⟩ = some (.int .i64 status) ∧ w'.cell? ⟨w.heap.size, 2, none⟩ = some (.int .i64 prior) ∧ w'.cell? ⟨w.heap.size, 3, none⟩ = some (.int .i64 cur) ∧ w'.cell? ⟨w.heap.size, 4, none⟩ = some (.int .i64 tax) ∧ w'.cell? ⟨w.heap.size, 5, none⟩ = some (.slice A n c) ∧ w'.cell? ⟨w.heap.size, 6, none⟩ = some (.int .i64 paid) ∧ w'.cell? ⟨w.heap.size, 7, none⟩ = some (.int .i64 refunded) ∧ w'.cell? ⟨w.heap.size, 8, none⟩ = some (.int .i64 events) ∧ w'.cell? ⟨w.heap.size, 9, none⟩ = some (.int .i64 refused) ∧ w'.cell? ⟨w.heap.size, 10, none⟩ = some (.int .i64 stamp) ∧ w'.cell? ⟨w.heap.size, 11, none⟩ = some (.string who) ∧ w'.cell? ⟨w.heap.size + 1, 0, none⟩ = some (.int .i64 ek) ∧ w'.cell? ⟨w.heap.size + 1, 1, none⟩ = some (.int .i64 eo) ∧ w'.cell? ⟨w.heap.size + 1, 2, none⟩ = some (.int .i64 ei) ∧ w'.cell? ⟨w.heap.size + 1, 3, none⟩ = some (.int .i64 eq) ∧ w'.cell? ⟨w.heap.size + 1, 4, none⟩ = some (.int .i64 ep) ∧ w'.cell? ⟨w.heap.size + 1, 5, none⟩ = some (.int .i64 ec) ∧ w'.cell? ⟨w.heap.size + 1, 6, none⟩ = some (.int .i64 et) ∧ w'.cell? ⟨w.heap.size + 1, 7, none⟩ = some (.string ew) ∧ w'.cell? ⟨w.heap.size + 1, 8, none⟩ = some (.int .i64 es) ∧ w'.cell? ⟨w.heap.size + 1, 9, none⟩ = some (.string en)) w'))
  have j1 : ((J : Int) == 1) = false := by simp; omega
  have j2 : ((J : Int) == 2) = false := by simp; omega
  have j0 : ((J : Int) != 0) = true := by simp; omega
  have hv1 : IntKind.i64.wrap (events + 1) = events + 1 := by rw [IntKind.wrap_i64]; omega
  have hv2 : IntKind.i64.wrap (refused + 1) = refused + 1 := by rw [IntKind.wrap_i64]; omega
  clear hJ
  go_enter Try.func26, Try.ntmps26
  go_wp2_with (first | (go_at_call 15; (with_reducible refine (K3.out _ (hr.ext exA)).mono ?_); rintro e w1 ⟨A1, c1, rfl, hx1, ho1⟩; have hG : w.heap.size + 1 + 1 + 1 ≤ w1.heap.size := (by have := hx1.size; simpa using this); have hn0 : ¬ (w.heap.size = w1.heap.size) := (by omega); have hn1 : ¬ (w1.heap.size = w.heap.size) := (by omega); have hn2 : ¬ (w.heap.size + 1 = w1.heap.size) := (by omega); have hn3 : ¬ (w1.heap.size = w.heap.size + 1) := (by omega); have hn4 : ¬ (w.heap.size + 1 + 1 = w1.heap.size) := (by omega); have hn5 : ¬ (w1.heap.size = w.heap.size + 1 + 1) := (by omega); have h3 := HS.out (w1.alloc (.cells #[.int .i64 order, .int .i64 status, .int .i64 prior, .int .i64 cur, .int .i64 tax, .slice A1 n c1, .int .i64 paid, .int .i64 refunded, .int .i64 events, .int .i64 refused, .int .i64 stamp, .string who] 25)) (ExtA hx1); go_split_ands) | (go_at_call 25; (with_reducible refine (KJ.out _ (hr.ext exA)).mono ?_); rintro e w2 ⟨rfl, hx2⟩; have d6 : Blk w2 w1.heap.size 25 #[.int .i64 order, .int .i64 status, .int .i64 prior, .int .i64 cur, .int .i64 tax, .slice A1 n c1, .int .i64 paid, .int .i64 refunded, .int .i64 events, .int .i64 refused, .int .i64 stamp, .string who] := BlkE (BlkN rfl) hx2; have d4 : Blk w2 (w.heap.size + 1 + 1) 25 #[.int .i64 0, .int .i64 0, .int .i64 0, .int .i64 0, .int .i64 0, .slice none 0 0, .int .i64 0, .int .i64 0, .int .i64 0, .int .i64 0, .int .i64 0, .string ⟨#[]⟩] := BlkE (BlkA (BlkE (BlkN (by simp)) hx1)) hx2; have o2 : OwnLs w2 (w.heap.size + 1 + 1 + 1) A1 ls c1 := own_less (OwnLs.mono (OwnA ho1) hx2) (by simp); have HN := Lib.hid (own_apart o2 d6); have HN4 := Lib.hid (own_apart o2 d4); have Ho := Lib.hid o2; have h3 := HS.out w2 (Ext.tr (ExtA hx1) hx2); go_split_ands; (have p0 : World.cell? w2 ⟨w1.heap.size, 0, none⟩ = some (.int .i64 order) := Blk.cell d6 0; have p1 : World.cell? w2 ⟨w1.heap.size, 1, none⟩ = some (.int .i64 status) := Blk.cell d6 1; have p2 : World.cell? w2 ⟨w1.heap.size, 2, none⟩ = some (.int .i64 prior) := Blk.cell d6 2; have p3 : World.cell? w2 ⟨w1.heap.size, 3, none⟩ = some (.int .i64 cur) := Blk.cell d6 3; have p4 : World.cell? w2 ⟨w1.heap.size, 4, none⟩ = some (.int .i64 tax) := Blk.cell d6 4; have p5 : World.cell? w2 ⟨w1.heap.size, 5, none⟩ = some _ := Blk.cell d6 5; have p6 : World.cell? w2 ⟨w1.heap.size, 6, none⟩ = some (.int .i64 paid) := Blk.cell d6 6; have p7 : World.cell? w2 ⟨w1.heap.size, 7, none⟩ = some (.int .i64 refunded) := Blk.cell d6 7; have p8 : World.cell? w2 ⟨w1.heap.size, 8, none⟩ = some (.int .i64 events) := Blk.cell d6 8; have p9 : World.cell? w2 ⟨w1.heap.size, 9, none⟩ = some (.int .i64 refused) := Blk.cell d6 9; have p10 : World.cell? w2 ⟨w1.heap.size, 10, none⟩ = some (.int .i64 stamp) := Blk.cell d6 10; have p11 : World.cell? w2 ⟨w1.heap.size, 11, none⟩ = some (.string who) := Blk.cell d6 11); have y1 := d6.frozen 1; have y2 := d6.frozen 2; have y3 := d6.frozen 3; have y4 := d6.frozen 4; have y5 := d6.frozen 5; have y6 := d6.frozen 6; have y7 := d6.frozen 7; have y8 := d6.frozen 8; have y9 := d6.frozen 9; have y10 := d6.frozen 10; have y11 := d6.frozen 11) | (with_reducible refine wpL_store_row rfl 25 (.tmp 4) (.tmp 32) rfl _ 25 _ _ rfl rfl (show Blk _ (w.heap.size + 1 + 1) 25 #[.int .i64 0, .int .i64 0, .int .i64 0, .int .i64 0, .int .i64 0, .slice none 0 0, .int .i64 0, .int .i64 0, .int .i64 0, .int .i64 0, .int .i64 0, .string ⟨#[]⟩] from bkV) ((st_size' _ _ _ _ _ _ _ _ _ _ _ _ _ _).trans (st_size' _ _ _ _ _ _ _ _ _ _ _ _ _ _).symm) (st_one' _ _ _ _ _ _ _ _ _ _ _ _ _ _) 12 st_wide (st_size' _ _ _ _ _ _ _ _ _ _ _ _ _ _) ?_))
  refine bodyPost_ret (res_row_t rfl _ _ 25 _ 12 _ rfl rfl (Blk.setRow_ (show Blk _ (w.heap.size + 1 + 1) 25 #[.int .i64 0, .int .i64 0, .int .i64 0, .int .i64 0, .int .i64 0, .slice none 0 0, .int .i64 0, .int .i64 0, .int .i64 0, .int .i64 0, .int .i64 0, .string ⟨#[]⟩] from bkV)) st_wide rfl) rfl ?_
  exact ⟨A1, c1, rfl, exA, own_less (OwnRw HN4.out (OwnSt HN.out (OwnSt HN.out o2))) (by omega)⟩
theorem notown_lt {w : World} {b g c : Nat} {A : Option Addr} {ls : List Ln} (h : OwnLs w b A ls c) (hg : g < b) : NotOwn A g := fun n2 c2 hc => by
  have h1 : (Value.slice A ls.length c).ownBlock = some g := by cases A with | none => simp [Value.ownBlock] at hc | some a => exact hc
  have := (World.ownsRow.lt h g h1).1
  omega
theorem notown_ge {w : World} {b g c : Nat} {A : Option Addr} {ls : List Ln} (h : OwnLs w b A ls c) (hg : w.heap.size ≤ g) : NotOwn A g := fun n2 c2 hc => by
  have h1 : (Value.slice A ls.length c).ownBlock = some g := by cases A with | none => simp [Value.ownBlock] at hc | some a => exact hc
  have := (World.ownsRow.lt h g h1).2
  omega
theorem sep_ne {A6 : Option Addr} {n c : Nat} {X : Option Nat} (h : ∀ r, X = some r → NotOwn A6 r) : (Value.slice A6 n c).ownBlock = none ∨ (Value.slice A6 n c).ownBlock ≠ X := by
  cases X with
  | none => cases A6 with
    | none => exact .inl rfl
    | some a => exact .inr (by simp [Value.ownBlock])
  | some r => exact .inr (h r rfl _ _)
theorem four {p q G : Prop} (aa : p → q → G) (ab : p → ¬ q → G) (ba : ¬ p → q → G) (bb : ¬ p → ¬ q → G) : G :=
  (Classical.em p).elim (fun a => (Classical.em q).elim (aa a) (ab a)) fun a => (Classical.em q).elim (ba a) (bb a)
end Go.Proofs.Ytlpjhnecihhkfaa
