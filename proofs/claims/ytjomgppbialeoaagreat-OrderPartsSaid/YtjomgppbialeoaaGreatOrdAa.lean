/-
  The table of rules; each rule as the plain law says it.
-/
/-
  The walk of order.Apply: what is refused.
-/
/-
  The walk of order.Apply: what is not refused.
-/
/-
  The walk of order.Apply: what is not refused, and names somebody.
-/
/-
  The walks of order.Apply (whole), order.Fold, order.Empty.
-/
/-
  The walk of the reference's Copy of a state.
-/
/-
  The walk of the laws' head: one order from the first event to the last.
-/
/-
  The walk of the reference's Same, at states that are the same.
-/
import Derived.Test.YtjomgppbialeoaaGreatOrdO
import Derived.Test.YtjomgppbialeoaaGreatOrdN
import Derived.Test.YtjomgppbialeoaaGreatOrdR
import Derived.Test.YtjomgppbialeoaaGreatSteps
import Derived.Test.YtjomgppbialeoaaGreatResT
import Derived.Test.YtjomgppbialeoaaGreatOrdCp
namespace Go.Proofs.YtjomgppbialeoaaGreat
open Go.RowKit
set_option linter.unusedVariables false
set_option linter.unusedSimpArgs false
def RuleOf (F : FuncId) (s : St) (e : Ev) : Prop := ∀ (A : Option Addr) (c g : Nat) (W0 w : World), Ext W0 w → W0.heap.size ≤ g → Blk w g 25 (stcells (bump s e) A c) → OwnLs w W0.heap.size A s.lines c →
  Calls Tryz.prog F #[.pointer (some ⟨g, 0, none⟩), .agg (evcells e)] w (TurnPost W0 g (rule (bump s e) e))
theorem rule_1 {s : St} {e : Ev} (hf : Fine s e) (hk : e.kind = 1) : RuleOf 46 s e := fun A c g W0 w hx hg hb ho => by
  have := place_any (bump s e) e A c g W0 w hx hg hb ho
  have hr : rule (bump s e) e = { bump s e with status := 1, cur := e.cur, tax := e.tax } := by unfold rule; rw [if_pos hk]
  rw [hr]; exact this
theorem rule_2 {s : St} {e : Ev} (hf : Fine s e) (hk : e.kind = 2) : RuleOf 47 s e := fun A c g W0 w hx hg hb ho => by
  have hr : rule (bump s e) e = { bump s e with lines := more e.item e.price e.qty (bump s e).lines } := by unfold rule; rw [if_neg (by omega), if_pos hk]
  rw [hr]
  cases ht : thereB e.item s.lines with
  | true => exact add_yes (bump s e) e A c g W0 w hx hg hb ho hf.valid.len hf.valid.rises hf.event ht
  | false => exact add_no (bump s e) e A c g W0 w hx hg hb ho hf.valid.len hf.valid.rises hf.event ht
theorem rule_3 {s : St} {e : Ev} (hf : Fine s e) (hk : e.kind = 3) : RuleOf 48 s e := fun A c g W0 w hx hg hb ho => by
  have hr : rule (bump s e) e = { bump s e with paid := s.paid + e.price, status := if s.paid + e.price = due s then 3 else s.status } := by unfold rule; rw [if_neg (by omega), if_neg (by omega), if_neg (by omega), if_pos hk]; rfl
  rw [hr]
  have hnb := net_bound hf.valid.lines_ok
  have hlen := hf.valid.len
  have htb := tax_bound hnb.1 hf.valid.tax.1 hf.valid.tax.2
  have hdu : due s = net s.lines + taxOf (net s.lines) s.tax := rfl
  have hp := hf.valid.paid
  have hrf := hf.valid.refunded
  have hpr := hf.event.price
  have hb2 : -4611686018427387904 ≤ s.paid + e.price ∧ s.paid + e.price ≤ 4611686018427387904 := by omega
  by_cases hd : s.paid + e.price = due s
  · rw [if_pos hd]
    exact pay_yes (bump s e) e A c g W0 w hx hg hb ho hf.valid.lines_ok hf.valid.len hf.valid.tax hb2 hd
  · rw [if_neg hd]
    exact pay_no (bump s e) e A c g W0 w hx hg hb ho hf.valid.lines_ok hf.valid.len hf.valid.tax hb2 hd
theorem there_line {s : St} {item : Int} {l : Ln} (hr : risesB (-1) s.lines = true) (h : lineOf s.lines item = some l) : thereB item s.lines = true ∧ ∀ h : posOf item s.lines < s.lines.length, s.lines[posOf item s.lines] = l := by
  have ht : thereB item s.lines = true := by
    cases ht : thereB item s.lines with
    | true => rfl
    | false => rw [line_not ht] at h; cases h
  obtain ⟨hP, hl⟩ := line_there hr ht
  refine ⟨ht, fun _ => ?_⟩
  rw [hl] at h
  exact Option.some.inj h
theorem rule_4 {s : St} {e : Ev} (hf : Fine s e) (hk : e.kind = 4) : RuleOf 49 s e := fun A c g W0 w hx hg hb ho => by
  obtain ⟨l, hl⟩ := hf.there (.inr hk)
  obtain ⟨ht, hg2⟩ := there_line hf.valid.rises hl
  have hs := hf.ship hk l hl
  have hr : rule (bump s e) e = { bump s e with lines := shipL e.item e.qty s.lines, status := if allB (shipL e.item e.qty s.lines) = true then 4 else s.status } := by unfold rule; rw [if_neg (by omega), if_neg (by omega), if_neg (by omega), if_neg (by omega), if_pos hk]; rfl
  rw [hr]
  exact ship_any (bump s e) e A c g W0 w hx hg hb ho hf.valid.len hf.valid.rises hf.event ht (fun h => by have := hg2 h; show e.qty ≤ (s.lines[posOf e.item s.lines]).qty - (s.lines[posOf e.item s.lines]).shipped; rw [this]; exact hs)
theorem rule_5 {s : St} {e : Ev} (hf : Fine s e) (hk : e.kind = 5) : RuleOf 50 s e := fun A c g W0 w hx hg hb ho => by
  have := cancel_any (bump s e) e A c g W0 w hx hg hb ho
  have hr : rule (bump s e) e = { bump s e with status := 5, prior := 0 } := by unfold rule; rw [if_neg (by omega), if_neg (by omega), if_neg (by omega), if_neg (by omega), if_neg (by omega), if_neg (by omega), if_neg (by omega), if_pos hk]
  rw [hr]; exact this
theorem rule_6 {s : St} {e : Ev} (hf : Fine s e) (hk : e.kind = 6) : RuleOf 51 s e := fun A c g W0 w hx hg hb ho => by
  obtain ⟨l, hl⟩ := hf.there (.inl hk)
  obtain ⟨ht, hg2⟩ := there_line hf.valid.rises hl
  have hd := hf.drop hk l hl
  have hr : rule (bump s e) e = { bump s e with lines := more e.item e.price (-e.qty) (bump s e).lines } := by unfold rule; rw [if_neg (by omega), if_neg (by omega), if_pos hk]
  rw [hr]
  by_cases hq : 0 < l.qty - e.qty
  · exact drop_keeps (bump s e) e A c g W0 w hx hg hb ho hf.valid.len hf.valid.rises hf.event ht (fun h => by have := hg2 h; show 0 < (s.lines[posOf e.item s.lines]).qty - e.qty; rw [this]; exact hq)
  · exact drop_loses (bump s e) e A c g W0 w hx hg hb ho hf.valid.len hf.valid.rises hf.event ht (fun h => by have := hg2 h; show (s.lines[posOf e.item s.lines]).qty - e.qty = 0; rw [this]; omega)
theorem rule_7 {s : St} {e : Ev} (hf : Fine s e) (hk : e.kind = 7) : RuleOf 52 s e := fun A c g W0 w hx hg hb ho => by
  have hnb := net_bound hf.valid.lines_ok
  have hlen := hf.valid.len
  have htb := tax_bound hnb.1 hf.valid.tax.1 hf.valid.tax.2
  have hdu : due s = net s.lines + taxOf (net s.lines) s.tax := rfl
  have hp := hf.valid.paid
  have hrf := hf.valid.refunded
  have hpr := hf.event.price
  have := refund_any (bump s e) e A c g W0 w hx hg hb ho (by show -4611686018427387904 ≤ s.refunded + e.price ∧ s.refunded + e.price ≤ 4611686018427387904; omega)
  have hr : rule (bump s e) e = { bump s e with refunded := s.refunded + e.price } := by unfold rule; rw [if_neg (by omega), if_neg (by omega), if_neg (by omega), if_neg (by omega), if_neg (by omega), if_neg (by omega), if_pos hk]; rfl
  rw [hr]; exact this
theorem rule_8 {s : St} {e : Ev} (hf : Fine s e) (hk : e.kind = 8) : RuleOf 53 s e := fun A c g W0 w hx hg hb ho => by
  have := hold_any (bump s e) e A c g W0 w hx hg hb ho
  have hr : rule (bump s e) e = { bump s e with prior := (bump s e).status, status := 2 } := by unfold rule; rw [if_neg (by omega), if_neg (by omega), if_neg (by omega), if_neg (by omega), if_neg (by omega), if_neg (by omega), if_neg (by omega), if_neg (by omega), if_pos hk]
  rw [hr]; exact this
theorem rule_9 {s : St} {e : Ev} (hf : Fine s e) (hk : e.kind = 9) : RuleOf 54 s e := fun A c g W0 w hx hg hb ho => by
  have := release_any (bump s e) e A c g W0 w hx hg hb ho
  have hr : rule (bump s e) e = { bump s e with status := (bump s e).prior, prior := 0 } := by unfold rule; rw [if_neg (by omega), if_neg (by omega), if_neg (by omega), if_neg (by omega), if_neg (by omega), if_neg (by omega), if_neg (by omega), if_neg (by omega), if_neg (by omega), if_pos hk]
  rw [hr]; exact this
theorem rule_10 {s : St} {e : Ev} (hf : Fine s e) (hk : e.kind = 10) : RuleOf 55 s e := fun A c g W0 w hx hg hb ho => by
  have := clear_any (bump s e) e A c g W0 w hx hg hb ho hf.valid.len
  have hr : rule (bump s e) e = { bump s e with lines := clearL (bump s e).lines, status := 4 } := by unfold rule; rw [if_neg (by omega), if_neg (by omega), if_neg (by omega), if_neg (by omega), if_neg (by omega), if_pos hk]
  rw [hr]; exact this
abbrev ruleTab : Array Value := #[.nilFunc, .func (.func 46) #[] #[], .func (.func 47) #[] #[], .func (.func 48) #[] #[], .func (.func 49) #[] #[], .func (.func 50) #[] #[], .func (.func 51) #[] #[], .func (.func 52) #[] #[], .func (.func 53) #[] #[], .func (.func 54) #[] #[], .func (.func 55) #[] #[]]
theorem tab_wide : Wide Tryz.prog 54 11 := ⟨⟨_, Tryz.underlying54, rfl⟩, by kernel_rfl⟩
theorem tab_one : ∀ v ∈ ruleTab.toList, v.oneCell' = true := by
  intro v hv; simp [ruleTab] at hv; rcases hv with rfl | rfl | rfl | rfl | rfl | rfl | rfl | rfl | rfl | rfl | rfl <;> rfl
abbrev nilTab : Array Value := #[.nilFunc, .nilFunc, .nilFunc, .nilFunc, .nilFunc, .nilFunc, .nilFunc, .nilFunc, .nilFunc, .nilFunc, .nilFunc]
theorem tab_size : ruleTab.size = 11 := rfl
theorem tab_size2 : ruleTab.size = nilTab.size := rfl
theorem rules_any (w : World) : Calls Tryz.prog 22 #[] w fun e w' => e = .returned (.agg ruleTab) ∧ Ext w w' := by
  go_enter Tryz.func22, Tryz.ntmps22
  go_wp2_with (with_reducible refine wpL_store_row rfl 54 (.tmp 0) (.tmp 1) rfl _ 54 _ _ rfl rfl (BlkN rfl) tab_size2 tab_one 11 tab_wide tab_size ?_)
  refine bodyPost_ret (res_row rfl _ _ _ 54 _ 11 rfl (Blk.setRow_ (BlkN rfl)) tab_wide rfl) rfl ?_
  exact ⟨rfl, (by repeat (first | with_reducible exact Below.refl _ _ | with_reducible assumption | with_reducible refine ExtD ?_ | with_reducible refine ExtDN ?_ | with_reducible refine ExtA ?_ | (with_reducible refine ExtR ?_ ?_; (first | omega | (dsimp only; omega) | (simp; done) | (simp; omega))) | (with_reducible refine ExtS ?_ ?_; (first | omega | (dsimp only; omega) | (simp; done) | (simp; omega))) | with_reducible refine Ext.tr ?_ (by with_reducible assumption)))⟩
end Go.Proofs.YtjomgppbialeoaaGreat

namespace Go.Proofs.YtjomgppbialeoaaGreat
open Go.RowKit
set_option linter.unusedVariables false
set_option linter.unusedSimpArgs false
/-- What Apply answers. -/
def ApPost (w : World) (s2 : St) (why : Nat) (e' : Ending) (w' : World) : Prop :=
  ∃ A' c', e' = .returned (.tuple #[.agg (stcells s2 A' c'), .int .i64 (why : Nat)]) ∧ Ext w w' ∧ OwnLs w' w.heap.size A' s2.lines c'
set_option maxRecDepth 100000 in
set_option maxHeartbeats 4000000 in
theorem apply_a (s : St) (e : Ev) (A : Option Addr) (c : Nat) (w : World) (hr : LsRd w A s.lines) (hn : s.lines.length ≤ 4398046510976) (hw1 : s.who.size ≤ 4611686018427387904) (hw2 : e.who.size ≤ 4611686018427387904) (hw3 : e.note.size ≤ 4611686018427387904) (hJ : judge s e = 1 ∨ judge s e = 2) :
    Calls Tryz.prog 11 #[.agg (stcells s A c), .agg (evcells e)] w (ApPost w s (judge s e)) := by
  have KC := Lib.hid fun W (h : LsRd W A s.lines) => lclone_any A s.lines c W h hn
  have KJ := Lib.hid fun W (h : LsRd W A s.lines) => judge_any s e A c W h (by omega) hw1 hw2 hw3
  clear hn hw1 hw2 hw3
  generalize judge s e = J at *
  obtain ⟨order, status, prior, cur, tax, ls, paid, refunded, events, refused, stamp, who⟩ := s
  obtain ⟨ek, eo, ei, eq, ep, ec, et, ew, es, en⟩ := e
  unfold NewLs at KC
  unfold stcells evcells at *
  unfold ApPost stcells
  dsimp only at *
  have Hnn : Hid (∃ n, n = ls.length) := Lib.hid ⟨_, rfl⟩
  obtain ⟨n, hnn⟩ := Hnn.out
  rw [← hnn] at KC KJ ⊢
  clear hnn Hnn
  rcases hJ with rfl | rfl
  all_goals
    go_enter Tryz.func11, Tryz.ntmps11
    go_wp2_with (first | (go_at_call 20; (with_reducible refine (KC.out _ (hr.ext (by repeat (first | with_reducible exact Below.refl _ _ | with_reducible assumption | with_reducible refine ExtD ?_ | with_reducible refine ExtDN ?_ | with_reducible refine ExtA ?_ | (with_reducible refine ExtR ?_ ?_; (first | omega | (dsimp only; omega) | (simp; done) | (simp; omega))) | (with_reducible refine ExtS ?_ ?_; (first | omega | (dsimp only; omega) | (simp; done) | (simp; omega))) | with_reducible refine Ext.tr ?_ (by with_reducible assumption))))).mono ?_); rintro e w1 ⟨A1, c1, rfl, hx1, ho1⟩; have b1 : Blk w1 w.heap.size 25 #[.int .i64 order, .int .i64 status, .int .i64 prior, .int .i64 cur, .int .i64 tax, .slice A n c, .int .i64 paid, .int .i64 refunded, .int .i64 events, .int .i64 refused, .int .i64 stamp, .string who] := (by repeat (first | with_reducible assumption | (with_reducible refine BlkN ?_; (first | rfl | (first | omega | (dsimp only; omega) | (simp; done) | (simp; omega)))) | with_reducible refine BlkD ?_ | with_reducible refine BlkDN ?_ | with_reducible refine BlkA ?_ | (with_reducible refine BlkF ?_ ?_; (first | omega | (dsimp only; omega) | (simp; done) | (simp; omega))) | with_reducible refine BlkE ?_ (by with_reducible assumption))); have b2 : Blk w1 (w.heap.size + 1) 38 #[.int .i64 ek, .int .i64 eo, .int .i64 ei, .int .i64 eq, .int .i64 ep, .int .i64 ec, .int .i64 et, .string ew, .int .i64 es, .string en] := (by repeat (first | with_reducible assumption | (with_reducible refine BlkN ?_; (first | rfl | (first | omega | (dsimp only; omega) | (simp; done) | (simp; omega)))) | with_reducible refine BlkD ?_ | with_reducible refine BlkDN ?_ | with_reducible refine BlkA ?_ | (with_reducible refine BlkF ?_ ?_; (first | omega | (dsimp only; omega) | (simp; done) | (simp; omega))) | with_reducible refine BlkE ?_ (by with_reducible assumption))); have b3 : Blk w1 (w.heap.size + 1 + 1) 25 #[.int .i64 0, .int .i64 0, .int .i64 0, .int .i64 0, .int .i64 0, .slice none 0 0, .int .i64 0, .int .i64 0, .int .i64 0, .int .i64 0, .int .i64 0, .string ⟨#[]⟩] := (by repeat (first | with_reducible assumption | (with_reducible refine BlkN ?_; (first | rfl | (first | omega | (dsimp only; omega) | (simp; done) | (simp; omega)))) | with_reducible refine BlkD ?_ | with_reducible refine BlkDN ?_ | with_reducible refine BlkA ?_ | (with_reducible refine BlkF ?_ ?_; (first | omega | (dsimp only; omega) | (simp; done) | (simp; omega))) | with_reducible refine BlkE ?_ (by with_reducible assumption))); have b4 : Blk w1 (w.heap.size + 1 + 1 + 1) 25 #[.int .i64 order, .int .i64 status, .int .i64 prior, .int .i64 cur, .int .i64 tax, .slice A n c, .int .i64 paid, .int .i64 refunded, .int .i64 events, .int .i64 refused, .int .i64 stamp, .string who] := (by repeat (first | with_reducible assumption | (with_reducible refine BlkN ?_; (first | rfl | (first | omega | (dsimp only; omega) | (simp; done) | (simp; omega)))) | with_reducible refine BlkD ?_ | with_reducible refine BlkDN ?_ | with_reducible refine BlkA ?_ | (with_reducible refine BlkF ?_ ?_; (first | omega | (dsimp only; omega) | (simp; done) | (simp; omega))) | with_reducible refine BlkE ?_ (by with_reducible assumption))); (have a0 : World.cell? w1 ⟨w.heap.size, 0, none⟩ = some (.int .i64 order) := Blk.cell b1 0; have a1 : World.cell? w1 ⟨w.heap.size, 1, none⟩ = some (.int .i64 status) := Blk.cell b1 1; have a2 : World.cell? w1 ⟨w.heap.size, 2, none⟩ = some (.int .i64 prior) := Blk.cell b1 2; have a3 : World.cell? w1 ⟨w.heap.size, 3, none⟩ = some (.int .i64 cur) := Blk.cell b1 3; have a4 : World.cell? w1 ⟨w.heap.size, 4, none⟩ = some (.int .i64 tax) := Blk.cell b1 4; have a5 : World.cell? w1 ⟨w.heap.size, 5, none⟩ = some _ := Blk.cell b1 5; have a6 : World.cell? w1 ⟨w.heap.size, 6, none⟩ = some (.int .i64 paid) := Blk.cell b1 6; have a7 : World.cell? w1 ⟨w.heap.size, 7, none⟩ = some (.int .i64 refunded) := Blk.cell b1 7; have a8 : World.cell? w1 ⟨w.heap.size, 8, none⟩ = some (.int .i64 events) := Blk.cell b1 8; have a9 : World.cell? w1 ⟨w.heap.size, 9, none⟩ = some (.int .i64 refused) := Blk.cell b1 9; have a10 : World.cell? w1 ⟨w.heap.size, 10, none⟩ = some (.int .i64 stamp) := Blk.cell b1 10; have a11 : World.cell? w1 ⟨w.heap.size, 11, none⟩ = some (.string who) := Blk.cell b1 11); (have v0 : World.cell? w1 ⟨w.heap.size + 1, 0, none⟩ = some (.int .i64 ek) := Blk.cell b2 0; have v1 : World.cell? w1 ⟨w.heap.size + 1, 1, none⟩ = some (.int .i64 eo) := Blk.cell b2 1; have v2 : World.cell? w1 ⟨w.heap.size + 1, 2, none⟩ = some (.int .i64 ei) := Blk.cell b2 2; have v3 : World.cell? w1 ⟨w.heap.size + 1, 3, none⟩ = some (.int .i64 eq) := Blk.cell b2 3; have v4 : World.cell? w1 ⟨w.heap.size + 1, 4, none⟩ = some (.int .i64 ep) := Blk.cell b2 4; have v5 : World.cell? w1 ⟨w.heap.size + 1, 5, none⟩ = some (.int .i64 ec) := Blk.cell b2 5; have v6 : World.cell? w1 ⟨w.heap.size + 1, 6, none⟩ = some (.int .i64 et) := Blk.cell b2 6; have v7 : World.cell? w1 ⟨w.heap.size + 1, 7, none⟩ = some (.string ew) := Blk.cell b2 7; have v8 : World.cell? w1 ⟨w.heap.size + 1, 8, none⟩ = some (.int .i64 es) := Blk.cell b2 8; have v9 : World.cell? w1 ⟨w.heap.size + 1, 9, none⟩ = some (.string en) := Blk.cell b2 9); have z4 := b4.cell 5; have z5 := b4.frozen 5; have o1 : OwnLs w1 (w.heap.size + 1 + 1 + 1) A1 ls c1 := own_less ho1 (by (first | omega | (dsimp only; omega) | (simp; done) | (simp; omega)))) | (go_at_call 21; (with_reducible refine (KJ.out _ (hr.ext (by repeat (first | with_reducible exact Below.refl _ _ | with_reducible assumption | with_reducible refine ExtD ?_ | with_reducible refine ExtDN ?_ | with_reducible refine ExtA ?_ | (with_reducible refine ExtR ?_ ?_; (first | omega | (dsimp only; omega) | (simp; done) | (simp; omega))) | (with_reducible refine ExtS ?_ ?_; (first | omega | (dsimp only; omega) | (simp; done) | (simp; omega))) | with_reducible refine Ext.tr ?_ (by with_reducible assumption))))).mono ?_); rintro e w2 ⟨rfl, hx2⟩; have d2 : Blk w2 (w.heap.size + 1) 38 #[.int .i64 ek, .int .i64 eo, .int .i64 ei, .int .i64 eq, .int .i64 ep, .int .i64 ec, .int .i64 et, .string ew, .int .i64 es, .string en] := (by repeat (first | with_reducible assumption | (with_reducible refine BlkN ?_; (first | rfl | (first | omega | (dsimp only; omega) | (simp; done) | (simp; omega)))) | with_reducible refine BlkD ?_ | with_reducible refine BlkDN ?_ | with_reducible refine BlkA ?_ | (with_reducible refine BlkF ?_ ?_; (first | omega | (dsimp only; omega) | (simp; done) | (simp; omega))) | with_reducible refine BlkE ?_ (by with_reducible assumption))); have d3 : Blk w2 (w.heap.size + 1 + 1) 25 #[.int .i64 0, .int .i64 0, .int .i64 0, .int .i64 0, .int .i64 0, .slice none 0 0, .int .i64 0, .int .i64 0, .int .i64 0, .int .i64 0, .int .i64 0, .string ⟨#[]⟩] := (by repeat (first | with_reducible assumption | (with_reducible refine BlkN ?_; (first | rfl | (first | omega | (dsimp only; omega) | (simp; done) | (simp; omega)))) | with_reducible refine BlkD ?_ | with_reducible refine BlkDN ?_ | with_reducible refine BlkA ?_ | (with_reducible refine BlkF ?_ ?_; (first | omega | (dsimp only; omega) | (simp; done) | (simp; omega))) | with_reducible refine BlkE ?_ (by with_reducible assumption))); have d4 : Blk w2 (w.heap.size + 1 + 1 + 1) 25 #[.int .i64 order, .int .i64 status, .int .i64 prior, .int .i64 cur, .int .i64 tax, .slice A1 n c1, .int .i64 paid, .int .i64 refunded, .int .i64 events, .int .i64 refused, .int .i64 stamp, .string who] := Blk_eq (BlkE (BlkS b4) hx2) rfl; have HN1 := Lib.hid (own_apart o1 b4); have o2 : OwnLs w2 (w.heap.size + 1 + 1 + 1) A1 ls c1 := OwnLs.mono (OwnSt HN1.out o1) hx2; (have p0 : World.cell? w2 ⟨w.heap.size + 1 + 1 + 1, 0, none⟩ = some (.int .i64 order) := Blk.cell d4 0; have p1 : World.cell? w2 ⟨w.heap.size + 1 + 1 + 1, 1, none⟩ = some (.int .i64 status) := Blk.cell d4 1; have p2 : World.cell? w2 ⟨w.heap.size + 1 + 1 + 1, 2, none⟩ = some (.int .i64 prior) := Blk.cell d4 2; have p3 : World.cell? w2 ⟨w.heap.size + 1 + 1 + 1, 3, none⟩ = some (.int .i64 cur) := Blk.cell d4 3; have p4 : World.cell? w2 ⟨w.heap.size + 1 + 1 + 1, 4, none⟩ = some (.int .i64 tax) := Blk.cell d4 4; have p5 : World.cell? w2 ⟨w.heap.size + 1 + 1 + 1, 5, none⟩ = some _ := Blk.cell d4 5; have p6 : World.cell? w2 ⟨w.heap.size + 1 + 1 + 1, 6, none⟩ = some (.int .i64 paid) := Blk.cell d4 6; have p7 : World.cell? w2 ⟨w.heap.size + 1 + 1 + 1, 7, none⟩ = some (.int .i64 refunded) := Blk.cell d4 7; have p8 : World.cell? w2 ⟨w.heap.size + 1 + 1 + 1, 8, none⟩ = some (.int .i64 events) := Blk.cell d4 8; have p9 : World.cell? w2 ⟨w.heap.size + 1 + 1 + 1, 9, none⟩ = some (.int .i64 refused) := Blk.cell d4 9; have p10 : World.cell? w2 ⟨w.heap.size + 1 + 1 + 1, 10, none⟩ = some (.int .i64 stamp) := Blk.cell d4 10; have p11 : World.cell? w2 ⟨w.heap.size + 1 + 1 + 1, 11, none⟩ = some (.string who) := Blk.cell d4 11)) | (with_reducible refine wpL_store_row rfl 25 (.tmp 4) (.tmp 22) rfl _ 25 _ _ rfl rfl d3 ((st_size' _ _ _ _ _ _ _ _ _ _ _ _ _ _).trans (st_size' _ _ _ _ _ _ _ _ _ _ _ _ _ _).symm) (st_one' _ _ _ _ _ _ _ _ _ _ _ _ _ _) 12 st_wide (st_size' _ _ _ _ _ _ _ _ _ _ _ _ _ _) ?_))
    refine bodyPost_ret (res_row_t rfl _ _ 25 _ 12 _ rfl rfl (Blk.setRow_ d3) st_wide rfl) rfl ?_
    have hap := own_apart o2 d3
    exact ⟨A1, c1, rfl, (by repeat (first | with_reducible exact Below.refl _ _ | with_reducible assumption | with_reducible refine ExtD ?_ | with_reducible refine ExtDN ?_ | with_reducible refine ExtA ?_ | (with_reducible refine ExtR ?_ ?_; (first | omega | (dsimp only; omega) | (simp; done) | (simp; omega))) | (with_reducible refine ExtS ?_ ?_; (first | omega | (dsimp only; omega) | (simp; done) | (simp; omega))) | with_reducible refine Ext.tr ?_ (by with_reducible assumption))), own_less (OwnRw hap o2) (by omega)⟩
set_option maxRecDepth 100000 in
set_option maxHeartbeats 4000000 in
theorem apply_b (s : St) (e : Ev) (A : Option Addr) (c : Nat) (w : World) (hr : LsRd w A s.lines) (hn : s.lines.length ≤ 4398046510976) (hw1 : s.who.size ≤ 4611686018427387904) (hw2 : e.who.size ≤ 4611686018427387904) (hw3 : e.note.size ≤ 4611686018427387904) (hJ : judge s e ≠ 0 ∧ judge s e ≠ 1 ∧ judge s e ≠ 2) (hev : 0 ≤ s.events ∧ s.events ≤ 1099511627776) (hrf : 0 ≤ s.refused ∧ s.refused ≤ 1099511627776) :
    Calls Tryz.prog 11 #[.agg (stcells s A c), .agg (evcells e)] w (ApPost w { s with events := s.events + 1, refused := s.refused + 1 } (judge s e)) := by
  have KC := Lib.hid fun W (h : LsRd W A s.lines) => lclone_any A s.lines c W h hn
  have KJ := Lib.hid fun W (h : LsRd W A s.lines) => judge_any s e A c W h (by omega) hw1 hw2 hw3
  clear hn hw1 hw2 hw3
  generalize judge s e = J at *
  obtain ⟨order, status, prior, cur, tax, ls, paid, refunded, events, refused, stamp, who⟩ := s
  obtain ⟨ek, eo, ei, eq, ep, ec, et, ew, es, en⟩ := e
  unfold NewLs at KC
  unfold stcells evcells at *
  unfold ApPost stcells
  dsimp only at *
  have Hnn : Hid (∃ n, n = ls.length) := Lib.hid ⟨_, rfl⟩
  obtain ⟨n, hnn⟩ := Hnn.out
  rw [← hnn] at KC KJ ⊢
  clear hnn Hnn
  have j1 : ((J : Int) == 1) = false := by simp; omega
  have j2 : ((J : Int) == 2) = false := by simp; omega
  have j0 : ((J : Int) != 0) = true := by simp; omega
  have hv1 : IntKind.i64.wrap (events + 1) = events + 1 := by rw [IntKind.wrap_i64]; omega
  have hv2 : IntKind.i64.wrap (refused + 1) = refused + 1 := by rw [IntKind.wrap_i64]; omega
  have HB5 : Hid (∀ W : World, Blk W (w.heap.size + 1 + 1) 25 #[.int .i64 0, .int .i64 0, .int .i64 0, .int .i64 0, .int .i64 0, .slice none 0 0, .int .i64 0, .int .i64 0, .int .i64 0, .int .i64 0, .int .i64 0, .string ⟨#[]⟩] → Blk ((W.setCell ⟨w.heap.size + 1 + 1 + 1, 8, none⟩ (.int .i64 (events + 1))).setCell ⟨w.heap.size + 1 + 1 + 1, 9, none⟩ (.int .i64 (refused + 1))) (w.heap.size + 1 + 1) 25 #[.int .i64 0, .int .i64 0, .int .i64 0, .int .i64 0, .int .i64 0, .slice none 0 0, .int .i64 0, .int .i64 0, .int .i64 0, .int .i64 0, .int .i64 0, .string ⟨#[]⟩]) := Lib.hid fun W h => (by repeat (first | with_reducible assumption | (with_reducible refine BlkN ?_; (first | rfl | (first | omega | (dsimp only; omega) | (simp; done) | (simp; omega)))) | with_reducible refine BlkD ?_ | with_reducible refine BlkDN ?_ | with_reducible refine BlkA ?_ | (with_reducible refine BlkF ?_ ?_; (first | omega | (dsimp only; omega) | (simp; done) | (simp; omega))) | with_reducible refine BlkE ?_ (by with_reducible assumption)))
  clear hJ
  go_enter Tryz.func11, Tryz.ntmps11
  go_wp2_with (first | (go_at_call 20; (with_reducible refine (KC.out _ (hr.ext (by repeat (first | with_reducible exact Below.refl _ _ | with_reducible assumption | with_reducible refine ExtD ?_ | with_reducible refine ExtDN ?_ | with_reducible refine ExtA ?_ | (with_reducible refine ExtR ?_ ?_; (first | omega | (dsimp only; omega) | (simp; done) | (simp; omega))) | (with_reducible refine ExtS ?_ ?_; (first | omega | (dsimp only; omega) | (simp; done) | (simp; omega))) | with_reducible refine Ext.tr ?_ (by with_reducible assumption))))).mono ?_); rintro e w1 ⟨A1, c1, rfl, hx1, ho1⟩; have b1 : Blk w1 w.heap.size 25 #[.int .i64 order, .int .i64 status, .int .i64 prior, .int .i64 cur, .int .i64 tax, .slice A n c, .int .i64 paid, .int .i64 refunded, .int .i64 events, .int .i64 refused, .int .i64 stamp, .string who] := (by repeat (first | with_reducible assumption | (with_reducible refine BlkN ?_; (first | rfl | (first | omega | (dsimp only; omega) | (simp; done) | (simp; omega)))) | with_reducible refine BlkD ?_ | with_reducible refine BlkDN ?_ | with_reducible refine BlkA ?_ | (with_reducible refine BlkF ?_ ?_; (first | omega | (dsimp only; omega) | (simp; done) | (simp; omega))) | with_reducible refine BlkE ?_ (by with_reducible assumption))); have b2 : Blk w1 (w.heap.size + 1) 38 #[.int .i64 ek, .int .i64 eo, .int .i64 ei, .int .i64 eq, .int .i64 ep, .int .i64 ec, .int .i64 et, .string ew, .int .i64 es, .string en] := (by repeat (first | with_reducible assumption | (with_reducible refine BlkN ?_; (first | rfl | (first | omega | (dsimp only; omega) | (simp; done) | (simp; omega)))) | with_reducible refine BlkD ?_ | with_reducible refine BlkDN ?_ | with_reducible refine BlkA ?_ | (with_reducible refine BlkF ?_ ?_; (first | omega | (dsimp only; omega) | (simp; done) | (simp; omega))) | with_reducible refine BlkE ?_ (by with_reducible assumption))); have b3 : Blk w1 (w.heap.size + 1 + 1) 25 #[.int .i64 0, .int .i64 0, .int .i64 0, .int .i64 0, .int .i64 0, .slice none 0 0, .int .i64 0, .int .i64 0, .int .i64 0, .int .i64 0, .int .i64 0, .string ⟨#[]⟩] := (by repeat (first | with_reducible assumption | (with_reducible refine BlkN ?_; (first | rfl | (first | omega | (dsimp only; omega) | (simp; done) | (simp; omega)))) | with_reducible refine BlkD ?_ | with_reducible refine BlkDN ?_ | with_reducible refine BlkA ?_ | (with_reducible refine BlkF ?_ ?_; (first | omega | (dsimp only; omega) | (simp; done) | (simp; omega))) | with_reducible refine BlkE ?_ (by with_reducible assumption))); have b4 : Blk w1 (w.heap.size + 1 + 1 + 1) 25 #[.int .i64 order, .int .i64 status, .int .i64 prior, .int .i64 cur, .int .i64 tax, .slice A n c, .int .i64 paid, .int .i64 refunded, .int .i64 events, .int .i64 refused, .int .i64 stamp, .string who] := (by repeat (first | with_reducible assumption | (with_reducible refine BlkN ?_; (first | rfl | (first | omega | (dsimp only; omega) | (simp; done) | (simp; omega)))) | with_reducible refine BlkD ?_ | with_reducible refine BlkDN ?_ | with_reducible refine BlkA ?_ | (with_reducible refine BlkF ?_ ?_; (first | omega | (dsimp only; omega) | (simp; done) | (simp; omega))) | with_reducible refine BlkE ?_ (by with_reducible assumption))); (have a0 : World.cell? w1 ⟨w.heap.size, 0, none⟩ = some (.int .i64 order) := Blk.cell b1 0; have a1 : World.cell? w1 ⟨w.heap.size, 1, none⟩ = some (.int .i64 status) := Blk.cell b1 1; have a2 : World.cell? w1 ⟨w.heap.size, 2, none⟩ = some (.int .i64 prior) := Blk.cell b1 2; have a3 : World.cell? w1 ⟨w.heap.size, 3, none⟩ = some (.int .i64 cur) := Blk.cell b1 3; have a4 : World.cell? w1 ⟨w.heap.size, 4, none⟩ = some (.int .i64 tax) := Blk.cell b1 4; have a5 : World.cell? w1 ⟨w.heap.size, 5, none⟩ = some _ := Blk.cell b1 5; have a6 : World.cell? w1 ⟨w.heap.size, 6, none⟩ = some (.int .i64 paid) := Blk.cell b1 6; have a7 : World.cell? w1 ⟨w.heap.size, 7, none⟩ = some (.int .i64 refunded) := Blk.cell b1 7; have a8 : World.cell? w1 ⟨w.heap.size, 8, none⟩ = some (.int .i64 events) := Blk.cell b1 8; have a9 : World.cell? w1 ⟨w.heap.size, 9, none⟩ = some (.int .i64 refused) := Blk.cell b1 9; have a10 : World.cell? w1 ⟨w.heap.size, 10, none⟩ = some (.int .i64 stamp) := Blk.cell b1 10; have a11 : World.cell? w1 ⟨w.heap.size, 11, none⟩ = some (.string who) := Blk.cell b1 11); (have v0 : World.cell? w1 ⟨w.heap.size + 1, 0, none⟩ = some (.int .i64 ek) := Blk.cell b2 0; have v1 : World.cell? w1 ⟨w.heap.size + 1, 1, none⟩ = some (.int .i64 eo) := Blk.cell b2 1; have v2 : World.cell? w1 ⟨w.heap.size + 1, 2, none⟩ = some (.int .i64 ei) := Blk.cell b2 2; have v3 : World.cell? w1 ⟨w.heap.size + 1, 3, none⟩ = some (.int .i64 eq) := Blk.cell b2 3; have v4 : World.cell? w1 ⟨w.heap.size + 1, 4, none⟩ = some (.int .i64 ep) := Blk.cell b2 4; have v5 : World.cell? w1 ⟨w.heap.size + 1, 5, none⟩ = some (.int .i64 ec) := Blk.cell b2 5; have v6 : World.cell? w1 ⟨w.heap.size + 1, 6, none⟩ = some (.int .i64 et) := Blk.cell b2 6; have v7 : World.cell? w1 ⟨w.heap.size + 1, 7, none⟩ = some (.string ew) := Blk.cell b2 7; have v8 : World.cell? w1 ⟨w.heap.size + 1, 8, none⟩ = some (.int .i64 es) := Blk.cell b2 8; have v9 : World.cell? w1 ⟨w.heap.size + 1, 9, none⟩ = some (.string en) := Blk.cell b2 9); have z4 := b4.cell 5; have z5 := b4.frozen 5; have o1 : OwnLs w1 (w.heap.size + 1 + 1 + 1) A1 ls c1 := own_less ho1 (by (first | omega | (dsimp only; omega) | (simp; done) | (simp; omega)))) | ((go_at_call 21; (with_reducible refine (KJ.out _ (hr.ext (by repeat (first | with_reducible exact Below.refl _ _ | with_reducible assumption | with_reducible refine ExtD ?_ | with_reducible refine ExtDN ?_ | with_reducible refine ExtA ?_ | (with_reducible refine ExtR ?_ ?_; (first | omega | (dsimp only; omega) | (simp; done) | (simp; omega))) | (with_reducible refine ExtS ?_ ?_; (first | omega | (dsimp only; omega) | (simp; done) | (simp; omega))) | with_reducible refine Ext.tr ?_ (by with_reducible assumption))))).mono ?_); rintro e w2 ⟨rfl, hx2⟩; have d2 : Blk w2 (w.heap.size + 1) 38 #[.int .i64 ek, .int .i64 eo, .int .i64 ei, .int .i64 eq, .int .i64 ep, .int .i64 ec, .int .i64 et, .string ew, .int .i64 es, .string en] := (by repeat (first | with_reducible assumption | (with_reducible refine BlkN ?_; (first | rfl | (first | omega | (dsimp only; omega) | (simp; done) | (simp; omega)))) | with_reducible refine BlkD ?_ | with_reducible refine BlkDN ?_ | with_reducible refine BlkA ?_ | (with_reducible refine BlkF ?_ ?_; (first | omega | (dsimp only; omega) | (simp; done) | (simp; omega))) | with_reducible refine BlkE ?_ (by with_reducible assumption))); have d3 : Blk w2 (w.heap.size + 1 + 1) 25 #[.int .i64 0, .int .i64 0, .int .i64 0, .int .i64 0, .int .i64 0, .slice none 0 0, .int .i64 0, .int .i64 0, .int .i64 0, .int .i64 0, .int .i64 0, .string ⟨#[]⟩] := (by repeat (first | with_reducible assumption | (with_reducible refine BlkN ?_; (first | rfl | (first | omega | (dsimp only; omega) | (simp; done) | (simp; omega)))) | with_reducible refine BlkD ?_ | with_reducible refine BlkDN ?_ | with_reducible refine BlkA ?_ | (with_reducible refine BlkF ?_ ?_; (first | omega | (dsimp only; omega) | (simp; done) | (simp; omega))) | with_reducible refine BlkE ?_ (by with_reducible assumption))); have d4 : Blk w2 (w.heap.size + 1 + 1 + 1) 25 #[.int .i64 order, .int .i64 status, .int .i64 prior, .int .i64 cur, .int .i64 tax, .slice A1 n c1, .int .i64 paid, .int .i64 refunded, .int .i64 events, .int .i64 refused, .int .i64 stamp, .string who] := Blk_eq (BlkE (BlkS b4) hx2) rfl; have HN1 := Lib.hid (own_apart o1 b4); have o2 : OwnLs w2 (w.heap.size + 1 + 1 + 1) A1 ls c1 := OwnLs.mono (OwnSt HN1.out o1) hx2; (have p0 : World.cell? w2 ⟨w.heap.size + 1 + 1 + 1, 0, none⟩ = some (.int .i64 order) := Blk.cell d4 0; have p1 : World.cell? w2 ⟨w.heap.size + 1 + 1 + 1, 1, none⟩ = some (.int .i64 status) := Blk.cell d4 1; have p2 : World.cell? w2 ⟨w.heap.size + 1 + 1 + 1, 2, none⟩ = some (.int .i64 prior) := Blk.cell d4 2; have p3 : World.cell? w2 ⟨w.heap.size + 1 + 1 + 1, 3, none⟩ = some (.int .i64 cur) := Blk.cell d4 3; have p4 : World.cell? w2 ⟨w.heap.size + 1 + 1 + 1, 4, none⟩ = some (.int .i64 tax) := Blk.cell d4 4; have p5 : World.cell? w2 ⟨w.heap.size + 1 + 1 + 1, 5, none⟩ = some _ := Blk.cell d4 5; have p6 : World.cell? w2 ⟨w.heap.size + 1 + 1 + 1, 6, none⟩ = some (.int .i64 paid) := Blk.cell d4 6; have p7 : World.cell? w2 ⟨w.heap.size + 1 + 1 + 1, 7, none⟩ = some (.int .i64 refunded) := Blk.cell d4 7; have p8 : World.cell? w2 ⟨w.heap.size + 1 + 1 + 1, 8, none⟩ = some (.int .i64 events) := Blk.cell d4 8; have p9 : World.cell? w2 ⟨w.heap.size + 1 + 1 + 1, 9, none⟩ = some (.int .i64 refused) := Blk.cell d4 9; have p10 : World.cell? w2 ⟨w.heap.size + 1 + 1 + 1, 10, none⟩ = some (.int .i64 stamp) := Blk.cell d4 10; have p11 : World.cell? w2 ⟨w.heap.size + 1 + 1 + 1, 11, none⟩ = some (.string who) := Blk.cell d4 11)); have y8 := d4.frozen 8; have y9 := d4.frozen 9) | (with_reducible refine wpL_store_row rfl 25 (.tmp 4) (.tmp 34) rfl _ 25 _ _ rfl rfl (HB5.out _ d3) ((st_size' _ _ _ _ _ _ _ _ _ _ _ _ _ _).trans (st_size' _ _ _ _ _ _ _ _ _ _ _ _ _ _).symm) (st_one' _ _ _ _ _ _ _ _ _ _ _ _ _ _) 12 st_wide (st_size' _ _ _ _ _ _ _ _ _ _ _ _ _ _) ?_))
  refine bodyPost_ret (res_row_t rfl _ _ 25 _ 12 _ rfl rfl (Blk.setRow_ (HB5.out _ d3)) st_wide rfl) rfl ?_
  have hap := own_apart o2 d3
  have hap4 := own_apart o2 d4
  exact ⟨A1, c1, rfl, (by repeat (first | with_reducible exact Below.refl _ _ | with_reducible assumption | with_reducible refine ExtD ?_ | with_reducible refine ExtDN ?_ | with_reducible refine ExtA ?_ | (with_reducible refine ExtR ?_ ?_; (first | omega | (dsimp only; omega) | (simp; done) | (simp; omega))) | (with_reducible refine ExtS ?_ ?_; (first | omega | (dsimp only; omega) | (simp; done) | (simp; omega))) | with_reducible refine Ext.tr ?_ (by with_reducible assumption))), own_less (OwnRw hap (OwnSt hap4 (OwnSt hap4 o2))) (by omega)⟩
end Go.Proofs.YtjomgppbialeoaaGreat

namespace Go.Proofs.YtjomgppbialeoaaGreat
open Go.RowKit
set_option linter.unusedVariables false
set_option linter.unusedSimpArgs false
theorem stc_size (s : St) (A : Option Addr) (c : Nat) : (stcells s A c).size = 12 := rfl
theorem stc_one (s : St) (A : Option Addr) (c : Nat) : ∀ v ∈ (stcells s A c).toList, v.oneCell' = true := st_one' _ _ _ _ _ _ _ _ _ _ _ _ _ _
theorem rule_at {s : St} {e : Ev} (hf : Fine s e) : ∃ F : FuncId, (e.kind = 1 ∧ F = 46 ∨ e.kind = 2 ∧ F = 47 ∨ e.kind = 3 ∧ F = 48 ∨ e.kind = 4 ∧ F = 49 ∨ e.kind = 5 ∧ F = 50 ∨ e.kind = 6 ∧ F = 51 ∨ e.kind = 7 ∧ F = 52 ∨ e.kind = 8 ∧ F = 53 ∨ e.kind = 9 ∧ F = 54 ∨ e.kind = 10 ∧ F = 55) ∧ RuleOf F s e := by
  have hk := hf.event.kind
  obtain h | h | h | h | h | h | h | h | h | h : e.kind = 1 ∨ e.kind = 2 ∨ e.kind = 3 ∨ e.kind = 4 ∨ e.kind = 5 ∨ e.kind = 6 ∨ e.kind = 7 ∨ e.kind = 8 ∨ e.kind = 9 ∨ e.kind = 10 := by omega
  · exact ⟨_, .inl ⟨h, rfl⟩, rule_1 hf h⟩
  · exact ⟨_, .inr (.inl ⟨h, rfl⟩), rule_2 hf h⟩
  · exact ⟨_, .inr (.inr (.inl ⟨h, rfl⟩)), rule_3 hf h⟩
  · exact ⟨_, .inr (.inr (.inr (.inl ⟨h, rfl⟩))), rule_4 hf h⟩
  · exact ⟨_, .inr (.inr (.inr (.inr (.inl ⟨h, rfl⟩)))), rule_5 hf h⟩
  · exact ⟨_, .inr (.inr (.inr (.inr (.inr (.inl ⟨h, rfl⟩))))), rule_6 hf h⟩
  · exact ⟨_, .inr (.inr (.inr (.inr (.inr (.inr (.inl ⟨h, rfl⟩)))))), rule_7 hf h⟩
  · exact ⟨_, .inr (.inr (.inr (.inr (.inr (.inr (.inr (.inl ⟨h, rfl⟩))))))), rule_8 hf h⟩
  · exact ⟨_, .inr (.inr (.inr (.inr (.inr (.inr (.inr (.inr (.inl ⟨h, rfl⟩)))))))), rule_9 hf h⟩
  · exact ⟨_, .inr (.inr (.inr (.inr (.inr (.inr (.inr (.inr (.inr (⟨h, rfl⟩))))))))), rule_10 hf h⟩
theorem ix_1 {k : Int} (h : k = 1) (W : World) : (Instr.index 54 (.agg ruleTab) (.int .i64 k)).run Tryz.prog W = .ok (.func (.func 46) #[] #[]) W := by
  rw [h]
  have hs : (IntKind.i64.wrap (1 : Int)) = 1 := by decide
  simp [Instr.index, run_underlying Tryz.underlying54, asIntOf, hs, ruleTab]
  simp [part, run_underlying Tryz.underlying53]
theorem ix_2 {k : Int} (h : k = 2) (W : World) : (Instr.index 54 (.agg ruleTab) (.int .i64 k)).run Tryz.prog W = .ok (.func (.func 47) #[] #[]) W := by
  rw [h]
  have hs : (IntKind.i64.wrap (2 : Int)) = 2 := by decide
  simp [Instr.index, run_underlying Tryz.underlying54, asIntOf, hs, ruleTab]
  simp [part, run_underlying Tryz.underlying53]
theorem ix_3 {k : Int} (h : k = 3) (W : World) : (Instr.index 54 (.agg ruleTab) (.int .i64 k)).run Tryz.prog W = .ok (.func (.func 48) #[] #[]) W := by
  rw [h]
  have hs : (IntKind.i64.wrap (3 : Int)) = 3 := by decide
  simp [Instr.index, run_underlying Tryz.underlying54, asIntOf, hs, ruleTab]
  simp [part, run_underlying Tryz.underlying53]
theorem ix_4 {k : Int} (h : k = 4) (W : World) : (Instr.index 54 (.agg ruleTab) (.int .i64 k)).run Tryz.prog W = .ok (.func (.func 49) #[] #[]) W := by
  rw [h]
  have hs : (IntKind.i64.wrap (4 : Int)) = 4 := by decide
  simp [Instr.index, run_underlying Tryz.underlying54, asIntOf, hs, ruleTab]
  simp [part, run_underlying Tryz.underlying53]
theorem ix_5 {k : Int} (h : k = 5) (W : World) : (Instr.index 54 (.agg ruleTab) (.int .i64 k)).run Tryz.prog W = .ok (.func (.func 50) #[] #[]) W := by
  rw [h]
  have hs : (IntKind.i64.wrap (5 : Int)) = 5 := by decide
  simp [Instr.index, run_underlying Tryz.underlying54, asIntOf, hs, ruleTab]
  simp [part, run_underlying Tryz.underlying53]
theorem ix_6 {k : Int} (h : k = 6) (W : World) : (Instr.index 54 (.agg ruleTab) (.int .i64 k)).run Tryz.prog W = .ok (.func (.func 51) #[] #[]) W := by
  rw [h]
  have hs : (IntKind.i64.wrap (6 : Int)) = 6 := by decide
  simp [Instr.index, run_underlying Tryz.underlying54, asIntOf, hs, ruleTab]
  simp [part, run_underlying Tryz.underlying53]
theorem ix_7 {k : Int} (h : k = 7) (W : World) : (Instr.index 54 (.agg ruleTab) (.int .i64 k)).run Tryz.prog W = .ok (.func (.func 52) #[] #[]) W := by
  rw [h]
  have hs : (IntKind.i64.wrap (7 : Int)) = 7 := by decide
  simp [Instr.index, run_underlying Tryz.underlying54, asIntOf, hs, ruleTab]
  simp [part, run_underlying Tryz.underlying53]
theorem ix_8 {k : Int} (h : k = 8) (W : World) : (Instr.index 54 (.agg ruleTab) (.int .i64 k)).run Tryz.prog W = .ok (.func (.func 53) #[] #[]) W := by
  rw [h]
  have hs : (IntKind.i64.wrap (8 : Int)) = 8 := by decide
  simp [Instr.index, run_underlying Tryz.underlying54, asIntOf, hs, ruleTab]
  simp [part, run_underlying Tryz.underlying53]
theorem ix_9 {k : Int} (h : k = 9) (W : World) : (Instr.index 54 (.agg ruleTab) (.int .i64 k)).run Tryz.prog W = .ok (.func (.func 54) #[] #[]) W := by
  rw [h]
  have hs : (IntKind.i64.wrap (9 : Int)) = 9 := by decide
  simp [Instr.index, run_underlying Tryz.underlying54, asIntOf, hs, ruleTab]
  simp [part, run_underlying Tryz.underlying53]
theorem ix_10 {k : Int} (h : k = 10) (W : World) : (Instr.index 54 (.agg ruleTab) (.int .i64 k)).run Tryz.prog W = .ok (.func (.func 55) #[] #[]) W := by
  rw [h]
  have hs : (IntKind.i64.wrap (10 : Int)) = 10 := by decide
  simp [Instr.index, run_underlying Tryz.underlying54, asIntOf, hs, ruleTab]
  simp [part, run_underlying Tryz.underlying53]
set_option maxRecDepth 100000 in
set_option maxHeartbeats 4000000 in
theorem apply_c0 (s : St) (e : Ev) (A : Option Addr) (c : Nat) (w : World) (hr : LsRd w A s.lines) (hn : s.lines.length ≤ 4398046510976) (hw1 : s.who.size ≤ 4611686018427387904) (hw2 : e.who.size ≤ 4611686018427387904) (hw3 : e.note.size ≤ 4611686018427387904) (hJ : judge s e = 0) (hwz : e.who.size = 0) :
    Calls Tryz.prog 11 #[.agg (stcells s A c), .agg (evcells e)] w (ApPost w (rule (bump s e) e) 0) := by
  have hf := fine_of hJ
  obtain ⟨F, hidx, hrl⟩ := rule_at hf
  have hev := hf.valid.events
  have KR := Lib.hid fun (A1 : Option Addr) (c1 g : Nat) (W0 W : World) (h1 : Ext W0 W) (h2 : W0.heap.size ≤ g) (h3 : Blk W g 25 (stcells (bump s e) A1 c1)) (h4 : OwnLs W W0.heap.size A1 s.lines c1) => hrl A1 c1 g W0 W h1 h2 h3 h4
  have KC := Lib.hid fun W (h : LsRd W A s.lines) => lclone_any A s.lines c W h hn
  have KJ := Lib.hid fun W (h : LsRd W A s.lines) => judge_any s e A c W h (by omega) hw1 hw2 hw3
  rw [hJ] at KJ
  clear hn hw1 hw2 hw3 hf hrl hJ
  generalize hs2 : rule (bump s e) e = s2 at *
  clear hs2
  obtain ⟨order, status, prior, cur, tax, ls, paid, refunded, events, refused, stamp, who⟩ := s
  obtain ⟨ek, eo, ei, eq, ep, ec, et, ew, es, en⟩ := e
  unfold NewLs at KC
  unfold bump at KR
  unfold stcells evcells at *
  unfold ApPost
  dsimp only at *
  have Hnn : Hid (∃ n, n = ls.length) := Lib.hid ⟨_, rfl⟩
  obtain ⟨n, hnn⟩ := Hnn.out
  rw [← hnn] at KC KJ KR ⊢
  clear hnn Hnn
  have hv1 : IntKind.i64.wrap (events + 1) = events + 1 := by rw [IntKind.wrap_i64]; omega
  have hmax : (if stamp < es then es else stamp) = max stamp es := by split <;> omega
  rw [hmax] at KR
  clear hmax
  have HS := Lib.hid (fun w' (h : Ext (((w.alloc (.cells #[.int .i64 order, .int .i64 status, .int .i64 prior, .int .i64 cur, .int .i64 tax, .slice A n c, .int .i64 paid, .int .i64 refunded, .int .i64 events, .int .i64 refused, .int .i64 stamp, .string who] 25)).alloc (.cells #[.int .i64 ek, .int .i64 eo, .int .i64 ei, .int .i64 eq, .int .i64 ep, .int .i64 ec, .int .i64 et, .string ew, .int .i64 es, .string en] 38)).alloc (.cells #[.int .i64 0, .int .i64 0, .int .i64 0, .int .i64 0, .int .i64 0, .slice none 0 0, .int .i64 0, .int .i64 0, .int .i64 0, .int .i64 0, .int .i64 0, .string ⟨#[]⟩] 25)) w') => (⟨h, (Ext.blk h (BlkA (BlkN (by simp)))).cell 0, (Ext.blk h (BlkA (BlkN (by simp)))).cell 1, (Ext.blk h (BlkA (BlkN (by simp)))).cell 2, (Ext.blk h (BlkA (BlkN (by simp)))).cell 3, (Ext.blk h (BlkA (BlkN (by simp)))).cell 4, (Ext.blk h (BlkA (BlkN (by simp)))).cell 5, (Ext.blk h (BlkA (BlkN (by simp)))).cell 6, (Ext.blk h (BlkA (BlkN (by simp)))).cell 7, (Ext.blk h (BlkA (BlkN (by simp)))).cell 8, (Ext.blk h (BlkA (BlkN (by simp)))).cell 9⟩ : (fun w' : World => Ext (((w.alloc (.cells #[.int .i64 order, .int .i64 status, .int .i64 prior, .int .i64 cur, .int .i64 tax, .slice A n c, .int .i64 paid, .int .i64 refunded, .int .i64 events, .int .i64 refused, .int .i64 stamp, .string who] 25)).alloc (.cells #[.int .i64 ek, .int .i64 eo, .int .i64 ei, .int .i64 eq, .int .i64 ep, .int .i64 ec, .int .i64 et, .string ew, .int .i64 es, .string en] 38)).alloc (.cells #[.int .i64 0, .int .i64 0, .int .i64 0, .int .i64 0, .int .i64 0, .slice none 0 0, .int .i64 0, .int .i64 0, .int .i64 0, .int .i64 0, .int .i64 0, .string ⟨#[]⟩] 25)) w' ∧ w'.cell? ⟨w.heap.size + 1, 0, none⟩ = some (.int .i64 ek) ∧ w'.cell? ⟨w.heap.size + 1, 1, none⟩ = some (.int .i64 eo) ∧ w'.cell? ⟨w.heap.size + 1, 2, none⟩ = some (.int .i64 ei) ∧ w'.cell? ⟨w.heap.size + 1, 3, none⟩ = some (.int .i64 eq) ∧ w'.cell? ⟨w.heap.size + 1, 4, none⟩ = some (.int .i64 ep) ∧ w'.cell? ⟨w.heap.size + 1, 5, none⟩ = some (.int .i64 ec) ∧ w'.cell? ⟨w.heap.size + 1, 6, none⟩ = some (.int .i64 et) ∧ w'.cell? ⟨w.heap.size + 1, 7, none⟩ = some (.string ew) ∧ w'.cell? ⟨w.heap.size + 1, 8, none⟩ = some (.int .i64 es) ∧ w'.cell? ⟨w.heap.size + 1, 9, none⟩ = some (.string en)) w'))
  have hWs : (((w.alloc (.cells #[.int .i64 order, .int .i64 status, .int .i64 prior, .int .i64 cur, .int .i64 tax, .slice A n c, .int .i64 paid, .int .i64 refunded, .int .i64 events, .int .i64 refused, .int .i64 stamp, .string who] 25)).alloc (.cells #[.int .i64 ek, .int .i64 eo, .int .i64 ei, .int .i64 eq, .int .i64 ep, .int .i64 ec, .int .i64 et, .string ew, .int .i64 es, .string en] 38)).alloc (.cells #[.int .i64 0, .int .i64 0, .int .i64 0, .int .i64 0, .int .i64 0, .slice none 0 0, .int .i64 0, .int .i64 0, .int .i64 0, .int .i64 0, .int .i64 0, .string ⟨#[]⟩] 25)).heap.size = w.heap.size + 1 + 1 + 1 := by simp
  have KR2 := Lib.hid fun A1 c1 W (h1 : Ext (((w.alloc (.cells #[.int .i64 order, .int .i64 status, .int .i64 prior, .int .i64 cur, .int .i64 tax, .slice A n c, .int .i64 paid, .int .i64 refunded, .int .i64 events, .int .i64 refused, .int .i64 stamp, .string who] 25)).alloc (.cells #[.int .i64 ek, .int .i64 eo, .int .i64 ei, .int .i64 eq, .int .i64 ep, .int .i64 ec, .int .i64 et, .string ew, .int .i64 es, .string en] 38)).alloc (.cells #[.int .i64 0, .int .i64 0, .int .i64 0, .int .i64 0, .int .i64 0, .slice none 0 0, .int .i64 0, .int .i64 0, .int .i64 0, .int .i64 0, .int .i64 0, .string ⟨#[]⟩] 25)) W) h3 (h4 : OwnLs W (w.heap.size + 1 + 1 + 1) A1 ls c1) => KR.out A1 c1 (w.heap.size + 1 + 1 + 1) (((w.alloc (.cells #[.int .i64 order, .int .i64 status, .int .i64 prior, .int .i64 cur, .int .i64 tax, .slice A n c, .int .i64 paid, .int .i64 refunded, .int .i64 events, .int .i64 refused, .int .i64 stamp, .string who] 25)).alloc (.cells #[.int .i64 ek, .int .i64 eo, .int .i64 ei, .int .i64 eq, .int .i64 ep, .int .i64 ec, .int .i64 et, .string ew, .int .i64 es, .string en] 38)).alloc (.cells #[.int .i64 0, .int .i64 0, .int .i64 0, .int .i64 0, .int .i64 0, .slice none 0 0, .int .i64 0, .int .i64 0, .int .i64 0, .int .i64 0, .int .i64 0, .string ⟨#[]⟩] 25)) W h1 (Nat.le_of_eq hWs) h3 (by rw [hWs]; exact h4)
  clear KR
  have hra := Lib.hid rules_any
  rw [if_pos hwz] at KR2
  have hwt : ew.toList.isEmpty = true := by rw [who_empty]; simpa using hwz
  go_enter Tryz.func11, Tryz.ntmps11
  go_wp2_with (first | (go_at_call 20; (with_reducible refine (KC.out _ (hr.ext (by repeat (first | with_reducible exact Below.refl _ _ | with_reducible assumption | with_reducible refine ExtD ?_ | with_reducible refine ExtDN ?_ | with_reducible refine ExtA ?_ | (with_reducible refine ExtR ?_ ?_; (first | omega | (dsimp only; omega) | (simp; done) | (simp; omega))) | (with_reducible refine ExtS ?_ ?_; (first | omega | (dsimp only; omega) | (simp; done) | (simp; omega))) | with_reducible refine Ext.tr ?_ (by with_reducible assumption))))).mono ?_); rintro e w1 ⟨A1, c1, rfl, hx1, ho1⟩; have b1 : Blk w1 w.heap.size 25 #[.int .i64 order, .int .i64 status, .int .i64 prior, .int .i64 cur, .int .i64 tax, .slice A n c, .int .i64 paid, .int .i64 refunded, .int .i64 events, .int .i64 refused, .int .i64 stamp, .string who] := (by repeat (first | with_reducible assumption | (with_reducible refine BlkN ?_; (first | rfl | (first | omega | (dsimp only; omega) | (simp; done) | (simp; omega)))) | with_reducible refine BlkD ?_ | with_reducible refine BlkDN ?_ | with_reducible refine BlkA ?_ | (with_reducible refine BlkF ?_ ?_; (first | omega | (dsimp only; omega) | (simp; done) | (simp; omega))) | with_reducible refine BlkE ?_ (by with_reducible assumption))); have b2 : Blk w1 (w.heap.size + 1) 38 #[.int .i64 ek, .int .i64 eo, .int .i64 ei, .int .i64 eq, .int .i64 ep, .int .i64 ec, .int .i64 et, .string ew, .int .i64 es, .string en] := (by repeat (first | with_reducible assumption | (with_reducible refine BlkN ?_; (first | rfl | (first | omega | (dsimp only; omega) | (simp; done) | (simp; omega)))) | with_reducible refine BlkD ?_ | with_reducible refine BlkDN ?_ | with_reducible refine BlkA ?_ | (with_reducible refine BlkF ?_ ?_; (first | omega | (dsimp only; omega) | (simp; done) | (simp; omega))) | with_reducible refine BlkE ?_ (by with_reducible assumption))); have b3 : Blk w1 (w.heap.size + 1 + 1) 25 #[.int .i64 0, .int .i64 0, .int .i64 0, .int .i64 0, .int .i64 0, .slice none 0 0, .int .i64 0, .int .i64 0, .int .i64 0, .int .i64 0, .int .i64 0, .string ⟨#[]⟩] := (by repeat (first | with_reducible assumption | (with_reducible refine BlkN ?_; (first | rfl | (first | omega | (dsimp only; omega) | (simp; done) | (simp; omega)))) | with_reducible refine BlkD ?_ | with_reducible refine BlkDN ?_ | with_reducible refine BlkA ?_ | (with_reducible refine BlkF ?_ ?_; (first | omega | (dsimp only; omega) | (simp; done) | (simp; omega))) | with_reducible refine BlkE ?_ (by with_reducible assumption))); have b4 : Blk w1 (w.heap.size + 1 + 1 + 1) 25 #[.int .i64 order, .int .i64 status, .int .i64 prior, .int .i64 cur, .int .i64 tax, .slice A n c, .int .i64 paid, .int .i64 refunded, .int .i64 events, .int .i64 refused, .int .i64 stamp, .string who] := (by repeat (first | with_reducible assumption | (with_reducible refine BlkN ?_; (first | rfl | (first | omega | (dsimp only; omega) | (simp; done) | (simp; omega)))) | with_reducible refine BlkD ?_ | with_reducible refine BlkDN ?_ | with_reducible refine BlkA ?_ | (with_reducible refine BlkF ?_ ?_; (first | omega | (dsimp only; omega) | (simp; done) | (simp; omega))) | with_reducible refine BlkE ?_ (by with_reducible assumption))); (have a0 : World.cell? w1 ⟨w.heap.size, 0, none⟩ = some (.int .i64 order) := Blk.cell b1 0; have a1 : World.cell? w1 ⟨w.heap.size, 1, none⟩ = some (.int .i64 status) := Blk.cell b1 1; have a2 : World.cell? w1 ⟨w.heap.size, 2, none⟩ = some (.int .i64 prior) := Blk.cell b1 2; have a3 : World.cell? w1 ⟨w.heap.size, 3, none⟩ = some (.int .i64 cur) := Blk.cell b1 3; have a4 : World.cell? w1 ⟨w.heap.size, 4, none⟩ = some (.int .i64 tax) := Blk.cell b1 4; have a5 : World.cell? w1 ⟨w.heap.size, 5, none⟩ = some _ := Blk.cell b1 5; have a6 : World.cell? w1 ⟨w.heap.size, 6, none⟩ = some (.int .i64 paid) := Blk.cell b1 6; have a7 : World.cell? w1 ⟨w.heap.size, 7, none⟩ = some (.int .i64 refunded) := Blk.cell b1 7; have a8 : World.cell? w1 ⟨w.heap.size, 8, none⟩ = some (.int .i64 events) := Blk.cell b1 8; have a9 : World.cell? w1 ⟨w.heap.size, 9, none⟩ = some (.int .i64 refused) := Blk.cell b1 9; have a10 : World.cell? w1 ⟨w.heap.size, 10, none⟩ = some (.int .i64 stamp) := Blk.cell b1 10; have a11 : World.cell? w1 ⟨w.heap.size, 11, none⟩ = some (.string who) := Blk.cell b1 11); (have v0 : World.cell? w1 ⟨w.heap.size + 1, 0, none⟩ = some (.int .i64 ek) := Blk.cell b2 0; have v1 : World.cell? w1 ⟨w.heap.size + 1, 1, none⟩ = some (.int .i64 eo) := Blk.cell b2 1; have v2 : World.cell? w1 ⟨w.heap.size + 1, 2, none⟩ = some (.int .i64 ei) := Blk.cell b2 2; have v3 : World.cell? w1 ⟨w.heap.size + 1, 3, none⟩ = some (.int .i64 eq) := Blk.cell b2 3; have v4 : World.cell? w1 ⟨w.heap.size + 1, 4, none⟩ = some (.int .i64 ep) := Blk.cell b2 4; have v5 : World.cell? w1 ⟨w.heap.size + 1, 5, none⟩ = some (.int .i64 ec) := Blk.cell b2 5; have v6 : World.cell? w1 ⟨w.heap.size + 1, 6, none⟩ = some (.int .i64 et) := Blk.cell b2 6; have v7 : World.cell? w1 ⟨w.heap.size + 1, 7, none⟩ = some (.string ew) := Blk.cell b2 7; have v8 : World.cell? w1 ⟨w.heap.size + 1, 8, none⟩ = some (.int .i64 es) := Blk.cell b2 8; have v9 : World.cell? w1 ⟨w.heap.size + 1, 9, none⟩ = some (.string en) := Blk.cell b2 9); have z4 := b4.cell 5; have z5 := b4.frozen 5; have o1 : OwnLs w1 (w.heap.size + 1 + 1 + 1) A1 ls c1 := own_less ho1 (by (first | omega | (dsimp only; omega) | (simp; done) | (simp; omega)))) | ((go_at_call 21; (with_reducible refine (KJ.out _ (hr.ext (by repeat (first | with_reducible exact Below.refl _ _ | with_reducible assumption | with_reducible refine ExtD ?_ | with_reducible refine ExtDN ?_ | with_reducible refine ExtA ?_ | (with_reducible refine ExtR ?_ ?_; (first | omega | (dsimp only; omega) | (simp; done) | (simp; omega))) | (with_reducible refine ExtS ?_ ?_; (first | omega | (dsimp only; omega) | (simp; done) | (simp; omega))) | with_reducible refine Ext.tr ?_ (by with_reducible assumption))))).mono ?_); rintro e w2 ⟨rfl, hx2⟩; have d2 : Blk w2 (w.heap.size + 1) 38 #[.int .i64 ek, .int .i64 eo, .int .i64 ei, .int .i64 eq, .int .i64 ep, .int .i64 ec, .int .i64 et, .string ew, .int .i64 es, .string en] := (by repeat (first | with_reducible assumption | (with_reducible refine BlkN ?_; (first | rfl | (first | omega | (dsimp only; omega) | (simp; done) | (simp; omega)))) | with_reducible refine BlkD ?_ | with_reducible refine BlkDN ?_ | with_reducible refine BlkA ?_ | (with_reducible refine BlkF ?_ ?_; (first | omega | (dsimp only; omega) | (simp; done) | (simp; omega))) | with_reducible refine BlkE ?_ (by with_reducible assumption))); have d3 : Blk w2 (w.heap.size + 1 + 1) 25 #[.int .i64 0, .int .i64 0, .int .i64 0, .int .i64 0, .int .i64 0, .slice none 0 0, .int .i64 0, .int .i64 0, .int .i64 0, .int .i64 0, .int .i64 0, .string ⟨#[]⟩] := (by repeat (first | with_reducible assumption | (with_reducible refine BlkN ?_; (first | rfl | (first | omega | (dsimp only; omega) | (simp; done) | (simp; omega)))) | with_reducible refine BlkD ?_ | with_reducible refine BlkDN ?_ | with_reducible refine BlkA ?_ | (with_reducible refine BlkF ?_ ?_; (first | omega | (dsimp only; omega) | (simp; done) | (simp; omega))) | with_reducible refine BlkE ?_ (by with_reducible assumption))); have d4 : Blk w2 (w.heap.size + 1 + 1 + 1) 25 #[.int .i64 order, .int .i64 status, .int .i64 prior, .int .i64 cur, .int .i64 tax, .slice A1 n c1, .int .i64 paid, .int .i64 refunded, .int .i64 events, .int .i64 refused, .int .i64 stamp, .string who] := Blk_eq (BlkE (BlkS b4) hx2) rfl; have HN1 := Lib.hid (own_apart o1 b4); have o2 : OwnLs w2 (w.heap.size + 1 + 1 + 1) A1 ls c1 := OwnLs.mono (OwnSt HN1.out o1) hx2; (have p0 : World.cell? w2 ⟨w.heap.size + 1 + 1 + 1, 0, none⟩ = some (.int .i64 order) := Blk.cell d4 0; have p1 : World.cell? w2 ⟨w.heap.size + 1 + 1 + 1, 1, none⟩ = some (.int .i64 status) := Blk.cell d4 1; have p2 : World.cell? w2 ⟨w.heap.size + 1 + 1 + 1, 2, none⟩ = some (.int .i64 prior) := Blk.cell d4 2; have p3 : World.cell? w2 ⟨w.heap.size + 1 + 1 + 1, 3, none⟩ = some (.int .i64 cur) := Blk.cell d4 3; have p4 : World.cell? w2 ⟨w.heap.size + 1 + 1 + 1, 4, none⟩ = some (.int .i64 tax) := Blk.cell d4 4; have p5 : World.cell? w2 ⟨w.heap.size + 1 + 1 + 1, 5, none⟩ = some _ := Blk.cell d4 5; have p6 : World.cell? w2 ⟨w.heap.size + 1 + 1 + 1, 6, none⟩ = some (.int .i64 paid) := Blk.cell d4 6; have p7 : World.cell? w2 ⟨w.heap.size + 1 + 1 + 1, 7, none⟩ = some (.int .i64 refunded) := Blk.cell d4 7; have p8 : World.cell? w2 ⟨w.heap.size + 1 + 1 + 1, 8, none⟩ = some (.int .i64 events) := Blk.cell d4 8; have p9 : World.cell? w2 ⟨w.heap.size + 1 + 1 + 1, 9, none⟩ = some (.int .i64 refused) := Blk.cell d4 9; have p10 : World.cell? w2 ⟨w.heap.size + 1 + 1 + 1, 10, none⟩ = some (.int .i64 stamp) := Blk.cell d4 10; have p11 : World.cell? w2 ⟨w.heap.size + 1 + 1 + 1, 11, none⟩ = some (.string who) := Blk.cell d4 11)); have y8 := d4.frozen 8; have y10 := d4.frozen 10; have y11 := d4.frozen 11; (have v0 : World.cell? w2 ⟨w.heap.size + 1, 0, none⟩ = some (.int .i64 ek) := Blk.cell d2 0; have v1 : World.cell? w2 ⟨w.heap.size + 1, 1, none⟩ = some (.int .i64 eo) := Blk.cell d2 1; have v2 : World.cell? w2 ⟨w.heap.size + 1, 2, none⟩ = some (.int .i64 ei) := Blk.cell d2 2; have v3 : World.cell? w2 ⟨w.heap.size + 1, 3, none⟩ = some (.int .i64 eq) := Blk.cell d2 3; have v4 : World.cell? w2 ⟨w.heap.size + 1, 4, none⟩ = some (.int .i64 ep) := Blk.cell d2 4; have v5 : World.cell? w2 ⟨w.heap.size + 1, 5, none⟩ = some (.int .i64 ec) := Blk.cell d2 5; have v6 : World.cell? w2 ⟨w.heap.size + 1, 6, none⟩ = some (.int .i64 et) := Blk.cell d2 6; have v7 : World.cell? w2 ⟨w.heap.size + 1, 7, none⟩ = some (.string ew) := Blk.cell d2 7; have v8 : World.cell? w2 ⟨w.heap.size + 1, 8, none⟩ = some (.int .i64 es) := Blk.cell d2 8; have v9 : World.cell? w2 ⟨w.heap.size + 1, 9, none⟩ = some (.string en) := Blk.cell d2 9)))
  have e4 : Blk ((w2.setCell ⟨w.heap.size + 1 + 1 + 1, 8, none⟩ (.int .i64 (events + 1))).setCell ⟨w.heap.size + 1 + 1 + 1, 10, none⟩ (.int .i64 (max stamp es))) (w.heap.size + 1 + 1 + 1) 25 #[.int .i64 order, .int .i64 status, .int .i64 prior, .int .i64 cur, .int .i64 tax, .slice A1 n c1, .int .i64 paid, .int .i64 refunded, .int .i64 (events + 1), .int .i64 refused, .int .i64 (max stamp es), .string who] := Blk_eq (BlkS (BlkS d4)) rfl
  have hap4 := own_apart o2 d4
  have o4 := OwnSt (g := w.heap.size + 1 + 1 + 1) (i := 10) (u := .int .i64 (max stamp es)) hap4 (OwnSt (i := 8) (u := .int .i64 (events + 1)) hap4 o2)
  have hXz : Ext (((w.alloc (.cells #[.int .i64 order, .int .i64 status, .int .i64 prior, .int .i64 cur, .int .i64 tax, .slice A n c, .int .i64 paid, .int .i64 refunded, .int .i64 events, .int .i64 refused, .int .i64 stamp, .string who] 25)).alloc (.cells #[.int .i64 ek, .int .i64 eo, .int .i64 ei, .int .i64 eq, .int .i64 ep, .int .i64 ec, .int .i64 et, .string ew, .int .i64 es, .string en] 38)).alloc (.cells #[.int .i64 0, .int .i64 0, .int .i64 0, .int .i64 0, .int .i64 0, .slice none 0 0, .int .i64 0, .int .i64 0, .int .i64 0, .int .i64 0, .int .i64 0, .string ⟨#[]⟩] 25)) ((w2.setCell ⟨w.heap.size + 1 + 1 + 1, 8, none⟩ (.int .i64 (events + 1))).setCell ⟨w.heap.size + 1 + 1 + 1, 10, none⟩ (.int .i64 (max stamp es))) := (by repeat (first | with_reducible exact Below.refl _ _ | with_reducible assumption | with_reducible refine ExtD ?_ | with_reducible refine ExtDN ?_ | with_reducible refine ExtA ?_ | (with_reducible refine ExtR ?_ ?_; (first | omega | (dsimp only; omega) | (simp; done) | (simp; omega))) | (with_reducible refine ExtS ?_ ?_; (first | omega | (dsimp only; omega) | (simp; done) | (simp; omega))) | with_reducible refine Ext.tr ?_ (by with_reducible assumption)))
  clear a0 a1 a2 a3 a4 a5 a6 a7 a8 a9 a10 a11 v0 v1 v2 v3 v4 v5 v6 v7 v8 v9 p0 p1 p2 p3 p4 p5 p6 p7 p8 p9 p10 p11 y8 y10 y11 z4 z5 KC KJ b1 b2 b3 b4 ho1 hr hev hwt hwz hv1 hap4 HN1 o1 hx1
  generalize ((w2.setCell ⟨w.heap.size + 1 + 1 + 1, 8, none⟩ (.int .i64 (events + 1))).setCell ⟨w.heap.size + 1 + 1 + 1, 10, none⟩ (.int .i64 (max stamp es))) = Wz at hXz e4 o4 ⊢
  clear d2 d3 d4 o2 hx2
  rcases hidx with ⟨hk1, rfl⟩ | ⟨hk1, rfl⟩ | ⟨hk1, rfl⟩ | ⟨hk1, rfl⟩ | ⟨hk1, rfl⟩ | ⟨hk1, rfl⟩ | ⟨hk1, rfl⟩ | ⟨hk1, rfl⟩ | ⟨hk1, rfl⟩ | ⟨hk1, rfl⟩
  all_goals
    have hix := fun W => (by first | exact ix_1 hk1 W | exact ix_2 hk1 W | exact ix_3 hk1 W | exact ix_4 hk1 W | exact ix_5 hk1 W | exact ix_6 hk1 W | exact ix_7 hk1 W | exact ix_8 hk1 W | exact ix_9 hk1 W | exact ix_10 hk1 W : (Instr.index 54 (.agg ruleTab) (.int .i64 ek)).run Tryz.prog W = _)
    clear hk1
    go_region_held3 (fun w' : World => Ext (((w.alloc (.cells #[.int .i64 order, .int .i64 status, .int .i64 prior, .int .i64 cur, .int .i64 tax, .slice A n c, .int .i64 paid, .int .i64 refunded, .int .i64 events, .int .i64 refused, .int .i64 stamp, .string who] 25)).alloc (.cells #[.int .i64 ek, .int .i64 eo, .int .i64 ei, .int .i64 eq, .int .i64 ep, .int .i64 ec, .int .i64 et, .string ew, .int .i64 es, .string en] 38)).alloc (.cells #[.int .i64 0, .int .i64 0, .int .i64 0, .int .i64 0, .int .i64 0, .slice none 0 0, .int .i64 0, .int .i64 0, .int .i64 0, .int .i64 0, .int .i64 0, .string ⟨#[]⟩] 25)) w' ∧ w'.cell? ⟨w.heap.size + 1, 0, none⟩ = some (.int .i64 ek) ∧ w'.cell? ⟨w.heap.size + 1, 1, none⟩ = some (.int .i64 eo) ∧ w'.cell? ⟨w.heap.size + 1, 2, none⟩ = some (.int .i64 ei) ∧ w'.cell? ⟨w.heap.size + 1, 3, none⟩ = some (.int .i64 eq) ∧ w'.cell? ⟨w.heap.size + 1, 4, none⟩ = some (.int .i64 ep) ∧ w'.cell? ⟨w.heap.size + 1, 5, none⟩ = some (.int .i64 ec) ∧ w'.cell? ⟨w.heap.size + 1, 6, none⟩ = some (.int .i64 et) ∧ w'.cell? ⟨w.heap.size + 1, 7, none⟩ = some (.string ew) ∧ w'.cell? ⟨w.heap.size + 1, 8, none⟩ = some (.int .i64 es) ∧ w'.cell? ⟨w.heap.size + 1, 9, none⟩ = some (.string en)) (exact HS.out _ (by repeat (first | with_reducible exact Below.refl _ _ | with_reducible assumption | with_reducible refine ExtD ?_ | with_reducible refine ExtDN ?_ | with_reducible refine ExtA ?_ | (with_reducible refine ExtR ?_ ?_; (first | omega | (dsimp only; omega) | (simp; done) | (simp; omega))) | (with_reducible refine ExtS ?_ ?_; (first | omega | (dsimp only; omega) | (simp; done) | (simp; omega))) | with_reducible refine Ext.tr ?_ (by with_reducible assumption)))) (first
      | (go_at_call 22; (with_reducible refine (hra.out _).mono ?_); rintro e w3 ⟨rfl, hx3⟩; have q4 := BlkE (BlkD e4) hx3; have oq := OwnLs.mono (OwnD o4) hx3)
      | ((with_reducible refine (KR2.out _ _ _ (by repeat (first | with_reducible exact Below.refl _ _ | with_reducible assumption | with_reducible refine ExtD ?_ | with_reducible refine ExtDN ?_ | with_reducible refine ExtA ?_ | (with_reducible refine ExtR ?_ ?_; (first | omega | (dsimp only; omega) | (simp; done) | (simp; omega))) | (with_reducible refine ExtS ?_ ?_; (first | omega | (dsimp only; omega) | (simp; done) | (simp; omega))) | with_reducible refine Ext.tr ?_ (by with_reducible assumption))) q4 oq).mono ?_); rintro e w4 ⟨A2, c2, rfl, hX4, hB4, hO4⟩; have hB3 : Blk w4 (w.heap.size + 1 + 1) 25 #[.int .i64 0, .int .i64 0, .int .i64 0, .int .i64 0, .int .i64 0, .slice none 0 0, .int .i64 0, .int .i64 0, .int .i64 0, .int .i64 0, .int .i64 0, .string ⟨#[]⟩] := Ext.blk hX4 (BlkN (by simp))))
    go_wp2_with (first
      | (with_reducible refine wpL_load_row rfl 25 (.tmp 6) rfl _ 25 _ 12 rfl hB4 st_wide (stc_size _ _ _) ?_)
      | (with_reducible refine wpL_store_row rfl 25 (.tmp 4) (.tmp 54) rfl _ 25 _ _ rfl rfl hB3 ((stc_size _ _ _).trans (st_size' _ _ _ _ _ _ _ _ _ _ _ _ _ _).symm) (stc_one _ _ _) 12 st_wide (stc_size _ _ _) ?_))
    refine bodyPost_ret (res_row_t rfl _ _ 25 _ 12 _ rfl rfl (Blk.setRow_ hB3) st_wide rfl) rfl ?_
    exact ⟨A2, c2, rfl, (by repeat (first | with_reducible exact Below.refl _ _ | with_reducible assumption | with_reducible refine ExtD ?_ | with_reducible refine ExtDN ?_ | with_reducible refine ExtA ?_ | (with_reducible refine ExtR ?_ ?_; (first | omega | (dsimp only; omega) | (simp; done) | (simp; omega))) | (with_reducible refine ExtS ?_ ?_; (first | omega | (dsimp only; omega) | (simp; done) | (simp; omega))) | with_reducible refine Ext.tr ?_ (by with_reducible assumption))), own_less (OwnRw (own_apart hO4 hB3) hO4) (by rw [hWs]; omega)⟩
end Go.Proofs.YtjomgppbialeoaaGreat

namespace Go.Proofs.YtjomgppbialeoaaGreat
open Go.RowKit
set_option linter.unusedVariables false
set_option linter.unusedSimpArgs false
set_option maxRecDepth 100000 in
set_option maxHeartbeats 4000000 in
theorem apply_c1 (s : St) (e : Ev) (A : Option Addr) (c : Nat) (w : World) (hr : LsRd w A s.lines) (hn : s.lines.length ≤ 4398046510976) (hw1 : s.who.size ≤ 4611686018427387904) (hw2 : e.who.size ≤ 4611686018427387904) (hw3 : e.note.size ≤ 4611686018427387904) (hJ : judge s e = 0) (hwz : ¬ e.who.size = 0) :
    Calls Tryz.prog 11 #[.agg (stcells s A c), .agg (evcells e)] w (ApPost w (rule (bump s e) e) 0) := by
  have hf := fine_of hJ
  obtain ⟨F, hidx, hrl⟩ := rule_at hf
  have hev := hf.valid.events
  have KR := Lib.hid fun (A1 : Option Addr) (c1 g : Nat) (W0 W : World) (h1 : Ext W0 W) (h2 : W0.heap.size ≤ g) (h3 : Blk W g 25 (stcells (bump s e) A1 c1)) (h4 : OwnLs W W0.heap.size A1 s.lines c1) => hrl A1 c1 g W0 W h1 h2 h3 h4
  have KC := Lib.hid fun W (h : LsRd W A s.lines) => lclone_any A s.lines c W h hn
  have KJ := Lib.hid fun W (h : LsRd W A s.lines) => judge_any s e A c W h (by omega) hw1 hw2 hw3
  rw [hJ] at KJ
  clear hn hw1 hw2 hw3 hf hrl hJ
  generalize hs2 : rule (bump s e) e = s2 at *
  clear hs2
  obtain ⟨order, status, prior, cur, tax, ls, paid, refunded, events, refused, stamp, who⟩ := s
  obtain ⟨ek, eo, ei, eq, ep, ec, et, ew, es, en⟩ := e
  unfold NewLs at KC
  unfold bump at KR
  unfold stcells evcells at *
  unfold ApPost
  dsimp only at *
  have Hnn : Hid (∃ n, n = ls.length) := Lib.hid ⟨_, rfl⟩
  obtain ⟨n, hnn⟩ := Hnn.out
  rw [← hnn] at KC KJ KR ⊢
  clear hnn Hnn
  have hv1 : IntKind.i64.wrap (events + 1) = events + 1 := by rw [IntKind.wrap_i64]; omega
  have hmax : (if stamp < es then es else stamp) = max stamp es := by split <;> omega
  rw [hmax] at KR
  clear hmax
  have HS := Lib.hid (fun w' (h : Ext (((w.alloc (.cells #[.int .i64 order, .int .i64 status, .int .i64 prior, .int .i64 cur, .int .i64 tax, .slice A n c, .int .i64 paid, .int .i64 refunded, .int .i64 events, .int .i64 refused, .int .i64 stamp, .string who] 25)).alloc (.cells #[.int .i64 ek, .int .i64 eo, .int .i64 ei, .int .i64 eq, .int .i64 ep, .int .i64 ec, .int .i64 et, .string ew, .int .i64 es, .string en] 38)).alloc (.cells #[.int .i64 0, .int .i64 0, .int .i64 0, .int .i64 0, .int .i64 0, .slice none 0 0, .int .i64 0, .int .i64 0, .int .i64 0, .int .i64 0, .int .i64 0, .string ⟨#[]⟩] 25)) w') => (⟨h, (Ext.blk h (BlkA (BlkN (by simp)))).cell 0, (Ext.blk h (BlkA (BlkN (by simp)))).cell 1, (Ext.blk h (BlkA (BlkN (by simp)))).cell 2, (Ext.blk h (BlkA (BlkN (by simp)))).cell 3, (Ext.blk h (BlkA (BlkN (by simp)))).cell 4, (Ext.blk h (BlkA (BlkN (by simp)))).cell 5, (Ext.blk h (BlkA (BlkN (by simp)))).cell 6, (Ext.blk h (BlkA (BlkN (by simp)))).cell 7, (Ext.blk h (BlkA (BlkN (by simp)))).cell 8, (Ext.blk h (BlkA (BlkN (by simp)))).cell 9⟩ : (fun w' : World => Ext (((w.alloc (.cells #[.int .i64 order, .int .i64 status, .int .i64 prior, .int .i64 cur, .int .i64 tax, .slice A n c, .int .i64 paid, .int .i64 refunded, .int .i64 events, .int .i64 refused, .int .i64 stamp, .string who] 25)).alloc (.cells #[.int .i64 ek, .int .i64 eo, .int .i64 ei, .int .i64 eq, .int .i64 ep, .int .i64 ec, .int .i64 et, .string ew, .int .i64 es, .string en] 38)).alloc (.cells #[.int .i64 0, .int .i64 0, .int .i64 0, .int .i64 0, .int .i64 0, .slice none 0 0, .int .i64 0, .int .i64 0, .int .i64 0, .int .i64 0, .int .i64 0, .string ⟨#[]⟩] 25)) w' ∧ w'.cell? ⟨w.heap.size + 1, 0, none⟩ = some (.int .i64 ek) ∧ w'.cell? ⟨w.heap.size + 1, 1, none⟩ = some (.int .i64 eo) ∧ w'.cell? ⟨w.heap.size + 1, 2, none⟩ = some (.int .i64 ei) ∧ w'.cell? ⟨w.heap.size + 1, 3, none⟩ = some (.int .i64 eq) ∧ w'.cell? ⟨w.heap.size + 1, 4, none⟩ = some (.int .i64 ep) ∧ w'.cell? ⟨w.heap.size + 1, 5, none⟩ = some (.int .i64 ec) ∧ w'.cell? ⟨w.heap.size + 1, 6, none⟩ = some (.int .i64 et) ∧ w'.cell? ⟨w.heap.size + 1, 7, none⟩ = some (.string ew) ∧ w'.cell? ⟨w.heap.size + 1, 8, none⟩ = some (.int .i64 es) ∧ w'.cell? ⟨w.heap.size + 1, 9, none⟩ = some (.string en)) w'))
  have hWs : (((w.alloc (.cells #[.int .i64 order, .int .i64 status, .int .i64 prior, .int .i64 cur, .int .i64 tax, .slice A n c, .int .i64 paid, .int .i64 refunded, .int .i64 events, .int .i64 refused, .int .i64 stamp, .string who] 25)).alloc (.cells #[.int .i64 ek, .int .i64 eo, .int .i64 ei, .int .i64 eq, .int .i64 ep, .int .i64 ec, .int .i64 et, .string ew, .int .i64 es, .string en] 38)).alloc (.cells #[.int .i64 0, .int .i64 0, .int .i64 0, .int .i64 0, .int .i64 0, .slice none 0 0, .int .i64 0, .int .i64 0, .int .i64 0, .int .i64 0, .int .i64 0, .string ⟨#[]⟩] 25)).heap.size = w.heap.size + 1 + 1 + 1 := by simp
  have KR2 := Lib.hid fun A1 c1 W (h1 : Ext (((w.alloc (.cells #[.int .i64 order, .int .i64 status, .int .i64 prior, .int .i64 cur, .int .i64 tax, .slice A n c, .int .i64 paid, .int .i64 refunded, .int .i64 events, .int .i64 refused, .int .i64 stamp, .string who] 25)).alloc (.cells #[.int .i64 ek, .int .i64 eo, .int .i64 ei, .int .i64 eq, .int .i64 ep, .int .i64 ec, .int .i64 et, .string ew, .int .i64 es, .string en] 38)).alloc (.cells #[.int .i64 0, .int .i64 0, .int .i64 0, .int .i64 0, .int .i64 0, .slice none 0 0, .int .i64 0, .int .i64 0, .int .i64 0, .int .i64 0, .int .i64 0, .string ⟨#[]⟩] 25)) W) h3 (h4 : OwnLs W (w.heap.size + 1 + 1 + 1) A1 ls c1) => KR.out A1 c1 (w.heap.size + 1 + 1 + 1) (((w.alloc (.cells #[.int .i64 order, .int .i64 status, .int .i64 prior, .int .i64 cur, .int .i64 tax, .slice A n c, .int .i64 paid, .int .i64 refunded, .int .i64 events, .int .i64 refused, .int .i64 stamp, .string who] 25)).alloc (.cells #[.int .i64 ek, .int .i64 eo, .int .i64 ei, .int .i64 eq, .int .i64 ep, .int .i64 ec, .int .i64 et, .string ew, .int .i64 es, .string en] 38)).alloc (.cells #[.int .i64 0, .int .i64 0, .int .i64 0, .int .i64 0, .int .i64 0, .slice none 0 0, .int .i64 0, .int .i64 0, .int .i64 0, .int .i64 0, .int .i64 0, .string ⟨#[]⟩] 25)) W h1 (Nat.le_of_eq hWs) h3 (by rw [hWs]; exact h4)
  clear KR
  have hra := Lib.hid rules_any
  rw [if_neg hwz] at KR2
  have hwt : ew.toList.isEmpty = false := by rw [who_empty]; simpa using hwz
  go_enter Tryz.func11, Tryz.ntmps11
  go_wp2_with (first | (go_at_call 20; (with_reducible refine (KC.out _ (hr.ext (by repeat (first | with_reducible exact Below.refl _ _ | with_reducible assumption | with_reducible refine ExtD ?_ | with_reducible refine ExtDN ?_ | with_reducible refine ExtA ?_ | (with_reducible refine ExtR ?_ ?_; (first | omega | (dsimp only; omega) | (simp; done) | (simp; omega))) | (with_reducible refine ExtS ?_ ?_; (first | omega | (dsimp only; omega) | (simp; done) | (simp; omega))) | with_reducible refine Ext.tr ?_ (by with_reducible assumption))))).mono ?_); rintro e w1 ⟨A1, c1, rfl, hx1, ho1⟩; have b1 : Blk w1 w.heap.size 25 #[.int .i64 order, .int .i64 status, .int .i64 prior, .int .i64 cur, .int .i64 tax, .slice A n c, .int .i64 paid, .int .i64 refunded, .int .i64 events, .int .i64 refused, .int .i64 stamp, .string who] := (by repeat (first | with_reducible assumption | (with_reducible refine BlkN ?_; (first | rfl | (first | omega | (dsimp only; omega) | (simp; done) | (simp; omega)))) | with_reducible refine BlkD ?_ | with_reducible refine BlkDN ?_ | with_reducible refine BlkA ?_ | (with_reducible refine BlkF ?_ ?_; (first | omega | (dsimp only; omega) | (simp; done) | (simp; omega))) | with_reducible refine BlkE ?_ (by with_reducible assumption))); have b2 : Blk w1 (w.heap.size + 1) 38 #[.int .i64 ek, .int .i64 eo, .int .i64 ei, .int .i64 eq, .int .i64 ep, .int .i64 ec, .int .i64 et, .string ew, .int .i64 es, .string en] := (by repeat (first | with_reducible assumption | (with_reducible refine BlkN ?_; (first | rfl | (first | omega | (dsimp only; omega) | (simp; done) | (simp; omega)))) | with_reducible refine BlkD ?_ | with_reducible refine BlkDN ?_ | with_reducible refine BlkA ?_ | (with_reducible refine BlkF ?_ ?_; (first | omega | (dsimp only; omega) | (simp; done) | (simp; omega))) | with_reducible refine BlkE ?_ (by with_reducible assumption))); have b3 : Blk w1 (w.heap.size + 1 + 1) 25 #[.int .i64 0, .int .i64 0, .int .i64 0, .int .i64 0, .int .i64 0, .slice none 0 0, .int .i64 0, .int .i64 0, .int .i64 0, .int .i64 0, .int .i64 0, .string ⟨#[]⟩] := (by repeat (first | with_reducible assumption | (with_reducible refine BlkN ?_; (first | rfl | (first | omega | (dsimp only; omega) | (simp; done) | (simp; omega)))) | with_reducible refine BlkD ?_ | with_reducible refine BlkDN ?_ | with_reducible refine BlkA ?_ | (with_reducible refine BlkF ?_ ?_; (first | omega | (dsimp only; omega) | (simp; done) | (simp; omega))) | with_reducible refine BlkE ?_ (by with_reducible assumption))); have b4 : Blk w1 (w.heap.size + 1 + 1 + 1) 25 #[.int .i64 order, .int .i64 status, .int .i64 prior, .int .i64 cur, .int .i64 tax, .slice A n c, .int .i64 paid, .int .i64 refunded, .int .i64 events, .int .i64 refused, .int .i64 stamp, .string who] := (by repeat (first | with_reducible assumption | (with_reducible refine BlkN ?_; (first | rfl | (first | omega | (dsimp only; omega) | (simp; done) | (simp; omega)))) | with_reducible refine BlkD ?_ | with_reducible refine BlkDN ?_ | with_reducible refine BlkA ?_ | (with_reducible refine BlkF ?_ ?_; (first | omega | (dsimp only; omega) | (simp; done) | (simp; omega))) | with_reducible refine BlkE ?_ (by with_reducible assumption))); (have a0 : World.cell? w1 ⟨w.heap.size, 0, none⟩ = some (.int .i64 order) := Blk.cell b1 0; have a1 : World.cell? w1 ⟨w.heap.size, 1, none⟩ = some (.int .i64 status) := Blk.cell b1 1; have a2 : World.cell? w1 ⟨w.heap.size, 2, none⟩ = some (.int .i64 prior) := Blk.cell b1 2; have a3 : World.cell? w1 ⟨w.heap.size, 3, none⟩ = some (.int .i64 cur) := Blk.cell b1 3; have a4 : World.cell? w1 ⟨w.heap.size, 4, none⟩ = some (.int .i64 tax) := Blk.cell b1 4; have a5 : World.cell? w1 ⟨w.heap.size, 5, none⟩ = some _ := Blk.cell b1 5; have a6 : World.cell? w1 ⟨w.heap.size, 6, none⟩ = some (.int .i64 paid) := Blk.cell b1 6; have a7 : World.cell? w1 ⟨w.heap.size, 7, none⟩ = some (.int .i64 refunded) := Blk.cell b1 7; have a8 : World.cell? w1 ⟨w.heap.size, 8, none⟩ = some (.int .i64 events) := Blk.cell b1 8; have a9 : World.cell? w1 ⟨w.heap.size, 9, none⟩ = some (.int .i64 refused) := Blk.cell b1 9; have a10 : World.cell? w1 ⟨w.heap.size, 10, none⟩ = some (.int .i64 stamp) := Blk.cell b1 10; have a11 : World.cell? w1 ⟨w.heap.size, 11, none⟩ = some (.string who) := Blk.cell b1 11); (have v0 : World.cell? w1 ⟨w.heap.size + 1, 0, none⟩ = some (.int .i64 ek) := Blk.cell b2 0; have v1 : World.cell? w1 ⟨w.heap.size + 1, 1, none⟩ = some (.int .i64 eo) := Blk.cell b2 1; have v2 : World.cell? w1 ⟨w.heap.size + 1, 2, none⟩ = some (.int .i64 ei) := Blk.cell b2 2; have v3 : World.cell? w1 ⟨w.heap.size + 1, 3, none⟩ = some (.int .i64 eq) := Blk.cell b2 3; have v4 : World.cell? w1 ⟨w.heap.size + 1, 4, none⟩ = some (.int .i64 ep) := Blk.cell b2 4; have v5 : World.cell? w1 ⟨w.heap.size + 1, 5, none⟩ = some (.int .i64 ec) := Blk.cell b2 5; have v6 : World.cell? w1 ⟨w.heap.size + 1, 6, none⟩ = some (.int .i64 et) := Blk.cell b2 6; have v7 : World.cell? w1 ⟨w.heap.size + 1, 7, none⟩ = some (.string ew) := Blk.cell b2 7; have v8 : World.cell? w1 ⟨w.heap.size + 1, 8, none⟩ = some (.int .i64 es) := Blk.cell b2 8; have v9 : World.cell? w1 ⟨w.heap.size + 1, 9, none⟩ = some (.string en) := Blk.cell b2 9); have z4 := b4.cell 5; have z5 := b4.frozen 5; have o1 : OwnLs w1 (w.heap.size + 1 + 1 + 1) A1 ls c1 := own_less ho1 (by (first | omega | (dsimp only; omega) | (simp; done) | (simp; omega)))) | ((go_at_call 21; (with_reducible refine (KJ.out _ (hr.ext (by repeat (first | with_reducible exact Below.refl _ _ | with_reducible assumption | with_reducible refine ExtD ?_ | with_reducible refine ExtDN ?_ | with_reducible refine ExtA ?_ | (with_reducible refine ExtR ?_ ?_; (first | omega | (dsimp only; omega) | (simp; done) | (simp; omega))) | (with_reducible refine ExtS ?_ ?_; (first | omega | (dsimp only; omega) | (simp; done) | (simp; omega))) | with_reducible refine Ext.tr ?_ (by with_reducible assumption))))).mono ?_); rintro e w2 ⟨rfl, hx2⟩; have d2 : Blk w2 (w.heap.size + 1) 38 #[.int .i64 ek, .int .i64 eo, .int .i64 ei, .int .i64 eq, .int .i64 ep, .int .i64 ec, .int .i64 et, .string ew, .int .i64 es, .string en] := (by repeat (first | with_reducible assumption | (with_reducible refine BlkN ?_; (first | rfl | (first | omega | (dsimp only; omega) | (simp; done) | (simp; omega)))) | with_reducible refine BlkD ?_ | with_reducible refine BlkDN ?_ | with_reducible refine BlkA ?_ | (with_reducible refine BlkF ?_ ?_; (first | omega | (dsimp only; omega) | (simp; done) | (simp; omega))) | with_reducible refine BlkE ?_ (by with_reducible assumption))); have d3 : Blk w2 (w.heap.size + 1 + 1) 25 #[.int .i64 0, .int .i64 0, .int .i64 0, .int .i64 0, .int .i64 0, .slice none 0 0, .int .i64 0, .int .i64 0, .int .i64 0, .int .i64 0, .int .i64 0, .string ⟨#[]⟩] := (by repeat (first | with_reducible assumption | (with_reducible refine BlkN ?_; (first | rfl | (first | omega | (dsimp only; omega) | (simp; done) | (simp; omega)))) | with_reducible refine BlkD ?_ | with_reducible refine BlkDN ?_ | with_reducible refine BlkA ?_ | (with_reducible refine BlkF ?_ ?_; (first | omega | (dsimp only; omega) | (simp; done) | (simp; omega))) | with_reducible refine BlkE ?_ (by with_reducible assumption))); have d4 : Blk w2 (w.heap.size + 1 + 1 + 1) 25 #[.int .i64 order, .int .i64 status, .int .i64 prior, .int .i64 cur, .int .i64 tax, .slice A1 n c1, .int .i64 paid, .int .i64 refunded, .int .i64 events, .int .i64 refused, .int .i64 stamp, .string who] := Blk_eq (BlkE (BlkS b4) hx2) rfl; have HN1 := Lib.hid (own_apart o1 b4); have o2 : OwnLs w2 (w.heap.size + 1 + 1 + 1) A1 ls c1 := OwnLs.mono (OwnSt HN1.out o1) hx2; (have p0 : World.cell? w2 ⟨w.heap.size + 1 + 1 + 1, 0, none⟩ = some (.int .i64 order) := Blk.cell d4 0; have p1 : World.cell? w2 ⟨w.heap.size + 1 + 1 + 1, 1, none⟩ = some (.int .i64 status) := Blk.cell d4 1; have p2 : World.cell? w2 ⟨w.heap.size + 1 + 1 + 1, 2, none⟩ = some (.int .i64 prior) := Blk.cell d4 2; have p3 : World.cell? w2 ⟨w.heap.size + 1 + 1 + 1, 3, none⟩ = some (.int .i64 cur) := Blk.cell d4 3; have p4 : World.cell? w2 ⟨w.heap.size + 1 + 1 + 1, 4, none⟩ = some (.int .i64 tax) := Blk.cell d4 4; have p5 : World.cell? w2 ⟨w.heap.size + 1 + 1 + 1, 5, none⟩ = some _ := Blk.cell d4 5; have p6 : World.cell? w2 ⟨w.heap.size + 1 + 1 + 1, 6, none⟩ = some (.int .i64 paid) := Blk.cell d4 6; have p7 : World.cell? w2 ⟨w.heap.size + 1 + 1 + 1, 7, none⟩ = some (.int .i64 refunded) := Blk.cell d4 7; have p8 : World.cell? w2 ⟨w.heap.size + 1 + 1 + 1, 8, none⟩ = some (.int .i64 events) := Blk.cell d4 8; have p9 : World.cell? w2 ⟨w.heap.size + 1 + 1 + 1, 9, none⟩ = some (.int .i64 refused) := Blk.cell d4 9; have p10 : World.cell? w2 ⟨w.heap.size + 1 + 1 + 1, 10, none⟩ = some (.int .i64 stamp) := Blk.cell d4 10; have p11 : World.cell? w2 ⟨w.heap.size + 1 + 1 + 1, 11, none⟩ = some (.string who) := Blk.cell d4 11)); have y8 := d4.frozen 8; have y10 := d4.frozen 10; have y11 := d4.frozen 11; (have v0 : World.cell? w2 ⟨w.heap.size + 1, 0, none⟩ = some (.int .i64 ek) := Blk.cell d2 0; have v1 : World.cell? w2 ⟨w.heap.size + 1, 1, none⟩ = some (.int .i64 eo) := Blk.cell d2 1; have v2 : World.cell? w2 ⟨w.heap.size + 1, 2, none⟩ = some (.int .i64 ei) := Blk.cell d2 2; have v3 : World.cell? w2 ⟨w.heap.size + 1, 3, none⟩ = some (.int .i64 eq) := Blk.cell d2 3; have v4 : World.cell? w2 ⟨w.heap.size + 1, 4, none⟩ = some (.int .i64 ep) := Blk.cell d2 4; have v5 : World.cell? w2 ⟨w.heap.size + 1, 5, none⟩ = some (.int .i64 ec) := Blk.cell d2 5; have v6 : World.cell? w2 ⟨w.heap.size + 1, 6, none⟩ = some (.int .i64 et) := Blk.cell d2 6; have v7 : World.cell? w2 ⟨w.heap.size + 1, 7, none⟩ = some (.string ew) := Blk.cell d2 7; have v8 : World.cell? w2 ⟨w.heap.size + 1, 8, none⟩ = some (.int .i64 es) := Blk.cell d2 8; have v9 : World.cell? w2 ⟨w.heap.size + 1, 9, none⟩ = some (.string en) := Blk.cell d2 9)))
  have e4 : Blk (((w2.setCell ⟨w.heap.size + 1 + 1 + 1, 8, none⟩ (.int .i64 (events + 1))).setCell ⟨w.heap.size + 1 + 1 + 1, 10, none⟩ (.int .i64 (max stamp es))).setCell ⟨w.heap.size + 1 + 1 + 1, 11, none⟩ (.string ew)) (w.heap.size + 1 + 1 + 1) 25 #[.int .i64 order, .int .i64 status, .int .i64 prior, .int .i64 cur, .int .i64 tax, .slice A1 n c1, .int .i64 paid, .int .i64 refunded, .int .i64 (events + 1), .int .i64 refused, .int .i64 (max stamp es), .string ew] := Blk_eq (BlkS (BlkS (BlkS d4))) rfl
  have hap4 := own_apart o2 d4
  have o4 := OwnSt (g := w.heap.size + 1 + 1 + 1) (i := 11) (u := .string ew) hap4 (OwnSt (i := 10) (u := .int .i64 (max stamp es)) hap4 (OwnSt (i := 8) (u := .int .i64 (events + 1)) hap4 o2))
  have hXz : Ext (((w.alloc (.cells #[.int .i64 order, .int .i64 status, .int .i64 prior, .int .i64 cur, .int .i64 tax, .slice A n c, .int .i64 paid, .int .i64 refunded, .int .i64 events, .int .i64 refused, .int .i64 stamp, .string who] 25)).alloc (.cells #[.int .i64 ek, .int .i64 eo, .int .i64 ei, .int .i64 eq, .int .i64 ep, .int .i64 ec, .int .i64 et, .string ew, .int .i64 es, .string en] 38)).alloc (.cells #[.int .i64 0, .int .i64 0, .int .i64 0, .int .i64 0, .int .i64 0, .slice none 0 0, .int .i64 0, .int .i64 0, .int .i64 0, .int .i64 0, .int .i64 0, .string ⟨#[]⟩] 25)) (((w2.setCell ⟨w.heap.size + 1 + 1 + 1, 8, none⟩ (.int .i64 (events + 1))).setCell ⟨w.heap.size + 1 + 1 + 1, 10, none⟩ (.int .i64 (max stamp es))).setCell ⟨w.heap.size + 1 + 1 + 1, 11, none⟩ (.string ew)) := (by repeat (first | with_reducible exact Below.refl _ _ | with_reducible assumption | with_reducible refine ExtD ?_ | with_reducible refine ExtDN ?_ | with_reducible refine ExtA ?_ | (with_reducible refine ExtR ?_ ?_; (first | omega | (dsimp only; omega) | (simp; done) | (simp; omega))) | (with_reducible refine ExtS ?_ ?_; (first | omega | (dsimp only; omega) | (simp; done) | (simp; omega))) | with_reducible refine Ext.tr ?_ (by with_reducible assumption)))
  clear a0 a1 a2 a3 a4 a5 a6 a7 a8 a9 a10 a11 v0 v1 v2 v3 v4 v5 v6 v7 v8 v9 p0 p1 p2 p3 p4 p5 p6 p7 p8 p9 p10 p11 y8 y10 y11 z4 z5 KC KJ b1 b2 b3 b4 ho1 hr hev hwt hwz hv1 hap4 HN1 o1 hx1
  generalize (((w2.setCell ⟨w.heap.size + 1 + 1 + 1, 8, none⟩ (.int .i64 (events + 1))).setCell ⟨w.heap.size + 1 + 1 + 1, 10, none⟩ (.int .i64 (max stamp es))).setCell ⟨w.heap.size + 1 + 1 + 1, 11, none⟩ (.string ew)) = Wz at hXz e4 o4 ⊢
  clear d2 d3 d4 o2 hx2
  rcases hidx with ⟨hk1, rfl⟩ | ⟨hk1, rfl⟩ | ⟨hk1, rfl⟩ | ⟨hk1, rfl⟩ | ⟨hk1, rfl⟩ | ⟨hk1, rfl⟩ | ⟨hk1, rfl⟩ | ⟨hk1, rfl⟩ | ⟨hk1, rfl⟩ | ⟨hk1, rfl⟩
  all_goals
    have hix := fun W => (by first | exact ix_1 hk1 W | exact ix_2 hk1 W | exact ix_3 hk1 W | exact ix_4 hk1 W | exact ix_5 hk1 W | exact ix_6 hk1 W | exact ix_7 hk1 W | exact ix_8 hk1 W | exact ix_9 hk1 W | exact ix_10 hk1 W : (Instr.index 54 (.agg ruleTab) (.int .i64 ek)).run Tryz.prog W = _)
    clear hk1
    go_region_held3 (fun w' : World => Ext (((w.alloc (.cells #[.int .i64 order, .int .i64 status, .int .i64 prior, .int .i64 cur, .int .i64 tax, .slice A n c, .int .i64 paid, .int .i64 refunded, .int .i64 events, .int .i64 refused, .int .i64 stamp, .string who] 25)).alloc (.cells #[.int .i64 ek, .int .i64 eo, .int .i64 ei, .int .i64 eq, .int .i64 ep, .int .i64 ec, .int .i64 et, .string ew, .int .i64 es, .string en] 38)).alloc (.cells #[.int .i64 0, .int .i64 0, .int .i64 0, .int .i64 0, .int .i64 0, .slice none 0 0, .int .i64 0, .int .i64 0, .int .i64 0, .int .i64 0, .int .i64 0, .string ⟨#[]⟩] 25)) w' ∧ w'.cell? ⟨w.heap.size + 1, 0, none⟩ = some (.int .i64 ek) ∧ w'.cell? ⟨w.heap.size + 1, 1, none⟩ = some (.int .i64 eo) ∧ w'.cell? ⟨w.heap.size + 1, 2, none⟩ = some (.int .i64 ei) ∧ w'.cell? ⟨w.heap.size + 1, 3, none⟩ = some (.int .i64 eq) ∧ w'.cell? ⟨w.heap.size + 1, 4, none⟩ = some (.int .i64 ep) ∧ w'.cell? ⟨w.heap.size + 1, 5, none⟩ = some (.int .i64 ec) ∧ w'.cell? ⟨w.heap.size + 1, 6, none⟩ = some (.int .i64 et) ∧ w'.cell? ⟨w.heap.size + 1, 7, none⟩ = some (.string ew) ∧ w'.cell? ⟨w.heap.size + 1, 8, none⟩ = some (.int .i64 es) ∧ w'.cell? ⟨w.heap.size + 1, 9, none⟩ = some (.string en)) (exact HS.out _ (by repeat (first | with_reducible exact Below.refl _ _ | with_reducible assumption | with_reducible refine ExtD ?_ | with_reducible refine ExtDN ?_ | with_reducible refine ExtA ?_ | (with_reducible refine ExtR ?_ ?_; (first | omega | (dsimp only; omega) | (simp; done) | (simp; omega))) | (with_reducible refine ExtS ?_ ?_; (first | omega | (dsimp only; omega) | (simp; done) | (simp; omega))) | with_reducible refine Ext.tr ?_ (by with_reducible assumption)))) (first
      | (go_at_call 22; (with_reducible refine (hra.out _).mono ?_); rintro e w3 ⟨rfl, hx3⟩; have q4 := BlkE (BlkD e4) hx3; have oq := OwnLs.mono (OwnD o4) hx3)
      | ((with_reducible refine (KR2.out _ _ _ (by repeat (first | with_reducible exact Below.refl _ _ | with_reducible assumption | with_reducible refine ExtD ?_ | with_reducible refine ExtDN ?_ | with_reducible refine ExtA ?_ | (with_reducible refine ExtR ?_ ?_; (first | omega | (dsimp only; omega) | (simp; done) | (simp; omega))) | (with_reducible refine ExtS ?_ ?_; (first | omega | (dsimp only; omega) | (simp; done) | (simp; omega))) | with_reducible refine Ext.tr ?_ (by with_reducible assumption))) q4 oq).mono ?_); rintro e w4 ⟨A2, c2, rfl, hX4, hB4, hO4⟩; have hB3 : Blk w4 (w.heap.size + 1 + 1) 25 #[.int .i64 0, .int .i64 0, .int .i64 0, .int .i64 0, .int .i64 0, .slice none 0 0, .int .i64 0, .int .i64 0, .int .i64 0, .int .i64 0, .int .i64 0, .string ⟨#[]⟩] := Ext.blk hX4 (BlkN (by simp))))
    go_wp2_with (first
      | (with_reducible refine wpL_load_row rfl 25 (.tmp 6) rfl _ 25 _ 12 rfl hB4 st_wide (stc_size _ _ _) ?_)
      | (with_reducible refine wpL_store_row rfl 25 (.tmp 4) (.tmp 54) rfl _ 25 _ _ rfl rfl hB3 ((stc_size _ _ _).trans (st_size' _ _ _ _ _ _ _ _ _ _ _ _ _ _).symm) (stc_one _ _ _) 12 st_wide (stc_size _ _ _) ?_))
    refine bodyPost_ret (res_row_t rfl _ _ 25 _ 12 _ rfl rfl (Blk.setRow_ hB3) st_wide rfl) rfl ?_
    exact ⟨A2, c2, rfl, (by repeat (first | with_reducible exact Below.refl _ _ | with_reducible assumption | with_reducible refine ExtD ?_ | with_reducible refine ExtDN ?_ | with_reducible refine ExtA ?_ | (with_reducible refine ExtR ?_ ?_; (first | omega | (dsimp only; omega) | (simp; done) | (simp; omega))) | (with_reducible refine ExtS ?_ ?_; (first | omega | (dsimp only; omega) | (simp; done) | (simp; omega))) | with_reducible refine Ext.tr ?_ (by with_reducible assumption))), own_less (OwnRw (own_apart hO4 hB3) hO4) (by rw [hWs]; omega)⟩
theorem apply_c (s : St) (e : Ev) (A : Option Addr) (c : Nat) (w : World) (hr : LsRd w A s.lines) (hn : s.lines.length ≤ 4398046510976) (hw1 : s.who.size ≤ 4611686018427387904) (hw2 : e.who.size ≤ 4611686018427387904) (hw3 : e.note.size ≤ 4611686018427387904) (hJ : judge s e = 0) :
    Calls Tryz.prog 11 #[.agg (stcells s A c), .agg (evcells e)] w (ApPost w (rule (bump s e) e) 0) := by
  by_cases h : e.who.size = 0
  · exact apply_c0 s e A c w hr hn hw1 hw2 hw3 hJ h
  · exact apply_c1 s e A c w hr hn hw1 hw2 hw3 hJ h
end Go.Proofs.YtjomgppbialeoaaGreat

namespace Go.Proofs.YtjomgppbialeoaaGreat
open Go.RowKit
set_option linter.unusedVariables false
set_option linter.unusedSimpArgs false
theorem judge_valid {s : St} {e : Ev} (h : judge s e ≠ 1) : VOk s := by
  cases hv : validB s with
  | true => exact valid_iff.1 hv
  | false => exact absurd (by unfold judge; rw [if_pos (.inl hv)]) h
theorem apply_any (s : St) (e : Ev) (A : Option Addr) (c : Nat) (w : World) (hr : LsRd w A s.lines) (hn : s.lines.length ≤ 4398046510976) (hw1 : s.who.size ≤ 4611686018427387904) (hw2 : e.who.size ≤ 4611686018427387904) (hw3 : e.note.size ≤ 4611686018427387904) :
    Calls Tryz.prog 11 #[.agg (stcells s A c), .agg (evcells e)] w (ApPost w (apply s e).1 (apply s e).2) := by
  unfold apply
  by_cases h1 : judge s e = 1 ∨ judge s e = 2
  · rw [if_pos h1]; exact apply_a s e A c w hr hn hw1 hw2 hw3 h1
  · rw [if_neg h1]
    by_cases h0 : judge s e = 0
    · rw [if_neg (by omega)]; exact apply_c s e A c w hr hn hw1 hw2 hw3 h0
    · rw [if_pos (by omega)]
      have hv := judge_valid (s := s) (e := e) (by omega)
      have h2 := hv.events
      have h3 := hv.refused
      exact apply_b s e A c w hr hn hw1 hw2 hw3 (by omega) h2 (by omega)
/-- The lengths of a state. -/
def StSm (s : St) : Prop := s.lines.length ≤ 4398046510976 ∧ s.who.size ≤ 4611686018427387904
def EvSm (e : Ev) : Prop := e.who.size ≤ 4611686018427387904 ∧ e.note.size ≤ 4611686018427387904
theorem sm_of_valid {s : St} (h : VOk s) : StSm s := by
  have h1 := h.len
  have h2 := h.named
  simp only [namedB, and_t, decide_eq_true_eq] at h2
  exact ⟨by omega, by omega⟩
theorem sm_apply {s : St} (e : Ev) (h : StSm s) : StSm (apply s e).1 := by
  by_cases h1 : judge s e = 1
  · unfold apply; rw [if_pos (.inl h1)]; exact h
  · exact sm_of_valid (valid_apply (judge_valid h1))
theorem fold_take {s : St} {es : List Ev} {k : Nat} (hk : k < es.length) : fold s (es.take (k + 1)) = (apply (fold s (es.take k)) es[k]).1 := by
  unfold fold
  rw [List.take_succ_eq_append_getElem hk, List.foldl_append]
  rfl
theorem sm_fold {s : St} (es : List Ev) (h : StSm s) : StSm (fold s es) := by
  unfold fold
  induction es generalizing s with
  | nil => exact h
  | cons e r ih => exact ih (sm_apply e h)
def noSt (id : Int) : St := ⟨id, 0, 0, 0, 0, [], 0, 0, 0, 0, 0, ⟨#[]⟩⟩
theorem empty_any (id : Int) (w : World) : Calls Tryz.prog 10 #[.int .i64 id] w fun e w' => e = .returned (.agg (stcells (noSt id) none 0)) ∧ Ext w w' := by
  unfold stcells noSt
  go_enter Tryz.func10, Tryz.ntmps10
  go_wp2_with fail
  refine bodyPost_ret (res_row rfl _ _ _ 25 _ 12 rfl (BlkN rfl) st_wide rfl) rfl ?_
  exact ⟨rfl, (by repeat (first | with_reducible exact Below.refl _ _ | with_reducible assumption | with_reducible refine ExtD ?_ | with_reducible refine ExtDN ?_ | with_reducible refine ExtA ?_ | (with_reducible refine ExtR ?_ ?_; (first | omega | (dsimp only; omega) | (simp; done) | (simp; omega))) | (with_reducible refine ExtS ?_ ?_; (first | omega | (dsimp only; omega) | (simp; done) | (simp; omega))) | with_reducible refine Ext.tr ?_ (by with_reducible assumption)))⟩
def FoPost (w : World) (s2 : St) (e' : Ending) (w' : World) : Prop := ∃ A' c', e' = .returned (.agg (stcells s2 A' c')) ∧ Ext w w' ∧ OwnLs w' w.heap.size A' s2.lines c'
def FoR (w : World) (s : St) (es : List Ev) (c13 : Value) (wr : World) : Prop :=
  ∃ (k : Nat) (A : Option Addr) (c : Nat), c13 = .int .i64 (k : Nat) ∧ k ≤ es.length ∧ Ext w wr ∧ Blk wr w.heap.size 25 (stcells (fold s (es.take k)) A c) ∧ Blk wr (w.heap.size + 1) 25 #[.int .i64 0, .int .i64 0, .int .i64 0, .int .i64 0, .int .i64 0, .slice none 0 0, .int .i64 0, .int .i64 0, .int .i64 0, .int .i64 0, .int .i64 0, .string ⟨#[]⟩] ∧ OwnLs wr w.heap.size A (fold s (es.take k)).lines c
theorem alloc_ev (w : World) : (Instr.alloc 38 true (.tuple #[])).run Tryz.prog w = .ok (.pointer (some ⟨w.heap.size, 0, none⟩)) (w.alloc (.cells #[.int .i64 0, .int .i64 0, .int .i64 0, .int .i64 0, .int .i64 0, .int .i64 0, .int .i64 0, .string ⟨#[]⟩, .int .i64 0, .string ⟨#[]⟩] 38)) := by kernel_rfl
set_option maxRecDepth 100000 in
set_option maxHeartbeats 4000000 in
theorem fold_any (s : St) (es : List Ev) (A B : Option Addr) (c cb : Nat) (w : World) (hr : LsRd w A s.lines) (hre : EsRd w B es) (hs : StSm s) (hes : ∀ e ∈ es, EvSm e) (hen : es.length ≤ 4611686018427387904) :
    Calls Tryz.prog 9 #[.agg (stcells s A c), .slice B es.length cb] w (FoPost w (fold s es)) := by
  have KC := Lib.hid fun W (h : LsRd W A s.lines) => lclone_any A s.lines c W h hs.1
  have Hs := Lib.hid hs
  have Hes := Lib.hid hes
  unfold NewLs at KC
  obtain ⟨n, hnn⟩ : ∃ n, n = es.length := ⟨_, rfl⟩
  rw [← hnn] at hen ⊢
  have Hn := Lib.hid hnn
  clear hnn hs hes
  unfold FoPost
  have Hst := Lib.hid (rfl : stcells s A c = _)
  rw [stcells]
  go_enter Tryz.func9, Tryz.ntmps9
  go_wp2_with (first | (go_at_call 20; (with_reducible refine (KC.out _ (hr.ext (by repeat (first | with_reducible exact Below.refl _ _ | with_reducible assumption | with_reducible refine ExtD ?_ | with_reducible refine ExtDN ?_ | with_reducible refine ExtA ?_ | (with_reducible refine ExtR ?_ ?_; (first | omega | (dsimp only; omega) | (simp; done) | (simp; omega))) | (with_reducible refine ExtS ?_ ?_; (first | omega | (dsimp only; omega) | (simp; done) | (simp; omega))) | with_reducible refine Ext.tr ?_ (by with_reducible assumption))))).mono ?_); rintro e w1 ⟨A1, c1, rfl, hx1, ho1⟩; have b1 := BlkE (BlkA (BlkN rfl)) hx1; have b2 : Blk w1 (w.heap.size + 1) 25 #[.int .i64 0, .int .i64 0, .int .i64 0, .int .i64 0, .int .i64 0, .slice none 0 0, .int .i64 0, .int .i64 0, .int .i64 0, .int .i64 0, .int .i64 0, .string ⟨#[]⟩] := (by repeat (first | with_reducible assumption | (with_reducible refine BlkN ?_; (first | rfl | (first | omega | (dsimp only; omega) | (simp; done) | (simp; omega)))) | with_reducible refine BlkD ?_ | with_reducible refine BlkDN ?_ | with_reducible refine BlkA ?_ | (with_reducible refine BlkF ?_ ?_; (first | omega | (dsimp only; omega) | (simp; done) | (simp; omega))) | with_reducible refine BlkE ?_ (by with_reducible assumption))); have z1 := b1.cell 5; have z2 := b1.frozen 5))
  go_loopw [13] (fun c13 wr => FoR w s es c13 wr) (fun c13 _ => n - (intOf c13).toNat)
  case atStart => exact ⟨0, A1, c1, rfl, by omega, (by repeat (first | with_reducible exact Below.refl _ _ | with_reducible assumption | with_reducible refine ExtD ?_ | with_reducible refine ExtDN ?_ | with_reducible refine ExtA ?_ | (with_reducible refine ExtR ?_ ?_; (first | omega | (dsimp only; omega) | (simp; done) | (simp; omega))) | (with_reducible refine ExtS ?_ ?_; (first | omega | (dsimp only; omega) | (simp; done) | (simp; omega))) | with_reducible refine Ext.tr ?_ (by with_reducible assumption))), Blk_eq (BlkS b1) rfl, (by repeat (first | with_reducible assumption | (with_reducible refine BlkN ?_; (first | rfl | (first | omega | (dsimp only; omega) | (simp; done) | (simp; omega)))) | with_reducible refine BlkD ?_ | with_reducible refine BlkDN ?_ | with_reducible refine BlkA ?_ | (with_reducible refine BlkF ?_ ?_; (first | omega | (dsimp only; omega) | (simp; done) | (simp; omega))) | with_reducible refine BlkE ?_ (by with_reducible assumption))), own_less (OwnSt (own_apart ho1 b1) ho1) (by (first | omega | (dsimp only; omega) | (simp; done) | (simp; omega)))⟩
  case round =>
    obtain ⟨k, A2, c2, rfl, hk, hx, hb, hb2, ho⟩ := hrel
    rw [← Hn.out] at hk
    clear b1 b2 z1 z2 ho1
    by_cases hlt : k < n
    · obtain ⟨b, o, rfl, hc⟩ := es_at hre (show k < es.length by rw [← Hn.out]; exact hlt)
      have Hc := Lib.hid (range_ext hc hx)
      have hft := fold_take (s := s) (show k < es.length by rw [← Hn.out]; exact hlt)
      have hse := Hes.out _ (List.getElem_mem (show k < es.length by rw [← Hn.out]; exact hlt))
      have hss := sm_fold (es.take k) Hs.out
      clear hc
      generalize es[k]'(by rw [← Hn.out]; exact hlt) = e at *
      generalize hsk : fold s (es.take k) = sk at *
      clear hsk
      have KA := Lib.hid fun W (h : LsRd W A2 sk.lines) => apply_any sk e A2 c2 W h hss.1 hss.2 hse.1 hse.2
      generalize hs3 : (apply sk e).1 = s3 at *
      generalize (apply sk e).2 = why at *
      clear hs3 hss hse
      have Hft := Lib.hid hft
      clear hft
      have Ho := Lib.hid ho
      have hap := own_apart ho hb
      have hal := alloc_ev
      have hN : w.heap.size < wr.heap.size := hb.lt
      have hB : ∀ ob, Blk (wr.alloc ob) w.heap.size 25 (stcells sk A2 c2) := fun ob => BlkA hb
      obtain ⟨ek, eo, ei, eq, ep, ec, et, ew, em, en⟩ := e
      unfold evcells at Hc KA
      unfold ApPost at KA
      dsimp only at Hc KA
      have e0 : wr.cell? ⟨b, o + k * 10, none⟩ = some (.int .i64 ek) := Hc.out 0 _ rfl
      have e1 : wr.cell? ⟨b, o + k * 10 + 1, none⟩ = some (.int .i64 eo) := Hc.out 1 _ rfl
      have e2 : wr.cell? ⟨b, o + k * 10 + 2, none⟩ = some (.int .i64 ei) := Hc.out 2 _ rfl
      have e3 : wr.cell? ⟨b, o + k * 10 + 3, none⟩ = some (.int .i64 eq) := Hc.out 3 _ rfl
      have e4 : wr.cell? ⟨b, o + k * 10 + 4, none⟩ = some (.int .i64 ep) := Hc.out 4 _ rfl
      have e5 : wr.cell? ⟨b, o + k * 10 + 5, none⟩ = some (.int .i64 ec) := Hc.out 5 _ rfl
      have e6 : wr.cell? ⟨b, o + k * 10 + 6, none⟩ = some (.int .i64 et) := Hc.out 6 _ rfl
      have e7 : wr.cell? ⟨b, o + k * 10 + 7, none⟩ = some (.string ew) := Hc.out 7 _ rfl
      have e8 : wr.cell? ⟨b, o + k * 10 + 8, none⟩ = some (.int .i64 em) := Hc.out 8 _ rfl
      have e9 : wr.cell? ⟨b, o + k * 10 + 9, none⟩ = some (.string en) := Hc.out 9 _ rfl
      go_wp2_with (first
        | (with_reducible refine wpL_load_row rfl 25 (.tmp 2) rfl _ 25 _ 12 rfl (hB _) st_wide (stc_size _ _ _) ?_)
        | (go_at_call 11; (with_reducible refine (KA.out _ (Ho.out.rd.ext (by repeat (first | with_reducible exact Below.refl _ _ | with_reducible assumption | with_reducible refine ExtD ?_ | with_reducible refine ExtDN ?_ | with_reducible refine ExtA ?_ | (with_reducible refine ExtR ?_ ?_; (first | omega | (dsimp only; omega) | (simp; done) | (simp; omega))) | (with_reducible refine ExtS ?_ ?_; (first | omega | (dsimp only; omega) | (simp; done) | (simp; omega))) | with_reducible refine Ext.tr ?_ (by with_reducible assumption))))).mono ?_); rintro e2 w2 ⟨A3, c3, rfl, hx2, ho2⟩; have q1 := BlkE (hB _) hx2; have q2 : Blk w2 (w.heap.size + 1) 25 #[.int .i64 0, .int .i64 0, .int .i64 0, .int .i64 0, .int .i64 0, .slice none 0 0, .int .i64 0, .int .i64 0, .int .i64 0, .int .i64 0, .int .i64 0, .string ⟨#[]⟩] := (by repeat (first | with_reducible assumption | (with_reducible refine BlkN ?_; (first | rfl | (first | omega | (dsimp only; omega) | (simp; done) | (simp; omega)))) | with_reducible refine BlkD ?_ | with_reducible refine BlkDN ?_ | with_reducible refine BlkA ?_ | (with_reducible refine BlkF ?_ ?_; (first | omega | (dsimp only; omega) | (simp; done) | (simp; omega))) | with_reducible refine BlkE ?_ (by with_reducible assumption))))
        | (with_reducible refine wpL_store_row rfl 25 (.tmp 2) (.tmp 21) rfl _ 25 _ _ rfl rfl q1 ((stc_size _ _ _).trans (stc_size _ _ _).symm) (stc_one _ _ _) 12 st_wide (stc_size _ _ _) ?_))
      refine And.intro ?_ ?_
      · refine ⟨k + 1, A3, c3, by go_num, by have := Hn.out; omega, (by repeat (first | with_reducible exact Below.refl _ _ | with_reducible assumption | with_reducible refine ExtD ?_ | with_reducible refine ExtDN ?_ | with_reducible refine ExtA ?_ | (with_reducible refine ExtR ?_ ?_; (first | omega | (dsimp only; omega) | (simp; done) | (simp; omega))) | (with_reducible refine ExtS ?_ ?_; (first | omega | (dsimp only; omega) | (simp; done) | (simp; omega))) | with_reducible refine Ext.tr ?_ (by with_reducible assumption))), ?_, (by repeat (first | with_reducible assumption | (with_reducible refine BlkN ?_; (first | rfl | (first | omega | (dsimp only; omega) | (simp; done) | (simp; omega)))) | with_reducible refine BlkD ?_ | with_reducible refine BlkDN ?_ | with_reducible refine BlkA ?_ | with_reducible refine BlkE ?_ (by with_reducible assumption) | with_reducible refine BlkS ?_ | (with_reducible refine BlkF ?_ ?_; (first | omega | (dsimp only; omega) | (simp; done) | (simp; omega))) | (with_reducible refine BlkR ?_ ?_; (first | omega | (dsimp only; omega) | (simp; done) | (simp; omega))))), ?_⟩
        · rw [Hft.out]; exact Blk.setRow_ q1
        · rw [Hft.out]; exact own_less (OwnRw (own_apart ho2 q1) ho2) (by (first | omega | (dsimp only; omega) | (simp; done) | (simp; omega)))
      · simp [intOf]; omega
    · obtain rfl : k = n := by omega
      have htk : es.take k = es := List.take_of_length_le (by have := Hn.out; omega)
      rw [htk] at hb ho
      have hap := own_apart ho hb2
      go_wp2_with (first
        | (with_reducible refine wpL_load_row rfl 25 (.tmp 2) rfl _ 25 _ 12 rfl hb st_wide (stc_size _ _ _) ?_)
        | (with_reducible refine wpL_store_row rfl 25 (.tmp 4) (.tmp 24) rfl _ 25 _ _ rfl rfl hb2 ((stc_size _ _ _).trans (st_size' _ _ _ _ _ _ _ _ _ _ _ _ _ _).symm) (stc_one _ _ _) 12 st_wide (stc_size _ _ _) ?_))
      refine bodyPost_ret (res_row rfl _ _ _ 25 _ 12 rfl (Blk.setRow_ hb2) st_wide rfl) rfl ?_
      exact ⟨A2, c2, rfl, (by repeat (first | with_reducible exact Below.refl _ _ | with_reducible assumption | with_reducible refine ExtD ?_ | with_reducible refine ExtDN ?_ | with_reducible refine ExtA ?_ | (with_reducible refine ExtR ?_ ?_; (first | omega | (dsimp only; omega) | (simp; done) | (simp; omega))) | (with_reducible refine ExtS ?_ ?_; (first | omega | (dsimp only; omega) | (simp; done) | (simp; omega))) | with_reducible refine Ext.tr ?_ (by with_reducible assumption))), OwnRw hap ho⟩
end Go.Proofs.YtjomgppbialeoaaGreat

namespace Go.Proofs.YtjomgppbialeoaaGreat
open Go.RowKit
set_option linter.unusedVariables false
set_option linter.unusedSimpArgs false
def hE1 : Ev := ⟨1, 7, 0, 0, 0, 0, 1000, ⟨#[]⟩, 0, ⟨#[]⟩⟩
def hE2 : Ev := ⟨2, 7, 3, 2, 500, 0, 0, ⟨#[]⟩, 0, ⟨#[]⟩⟩
def hE3 : Ev := ⟨2, 7, 1, 1, 99, 0, 0, ⟨#[]⟩, 0, ⟨#[]⟩⟩
def hE4 : Ev := ⟨3, 7, 0, 0, 1208, 0, 0, ⟨#[]⟩, 0, ⟨#[]⟩⟩
def hL : List Ln := [⟨1, 99, 1, 0⟩, ⟨3, 500, 2, 0⟩]
def hS : St := ⟨7, 1, 0, 0, 1000, hL, 0, 0, 3, 0, 0, ⟨#[]⟩⟩
def hT : St := ⟨7, 3, 0, 0, 1000, hL, 1208, 0, 4, 0, 0, ⟨#[]⟩⟩
theorem head_fold : fold (noSt 7) [hE1, hE2, hE3] = hS := by kernel_rfl
theorem head_valid : validB hS = true := by kernel_rfl
theorem head_due : due hS = 1208 := by kernel_rfl
theorem head_apply : apply hS hE4 = (hT, 0) := by kernel_rfl
theorem head_valid2 : validB hT = true := by kernel_rfl
theorem es_head {w : World} {h : Nat} (hb : Blk w h 38 #[.int .i64 1, .int .i64 7, .int .i64 0, .int .i64 0, .int .i64 0, .int .i64 0, .int .i64 1000, .string ⟨#[]⟩, .int .i64 0, .string ⟨#[]⟩, .int .i64 2, .int .i64 7, .int .i64 3, .int .i64 2, .int .i64 500, .int .i64 0, .int .i64 0, .string ⟨#[]⟩, .int .i64 0, .string ⟨#[]⟩, .int .i64 2, .int .i64 7, .int .i64 1, .int .i64 1, .int .i64 99, .int .i64 0, .int .i64 0, .string ⟨#[]⟩, .int .i64 0, .string ⟨#[]⟩]) : EsRd w (some ⟨h, 0, none⟩) [hE1, hE2, hE3] :=
  ⟨rfl, fun _ => ⟨h, 0, rfl, fun j u hu => by
    rw [Nat.zero_add, hb.cell, ← Array.getElem?_toList]
    exact hu⟩⟩
theorem hd_fold (w : World) (h : Nat) (hb : Blk w h 38 #[.int .i64 1, .int .i64 7, .int .i64 0, .int .i64 0, .int .i64 0, .int .i64 0, .int .i64 1000, .string ⟨#[]⟩, .int .i64 0, .string ⟨#[]⟩, .int .i64 2, .int .i64 7, .int .i64 3, .int .i64 2, .int .i64 500, .int .i64 0, .int .i64 0, .string ⟨#[]⟩, .int .i64 0, .string ⟨#[]⟩, .int .i64 2, .int .i64 7, .int .i64 1, .int .i64 1, .int .i64 99, .int .i64 0, .int .i64 0, .string ⟨#[]⟩, .int .i64 0, .string ⟨#[]⟩]) :
    Calls Tryz.prog 9 #[.agg #[.int .i64 7, .int .i64 0, .int .i64 0, .int .i64 0, .int .i64 0, .slice none 0 0, .int .i64 0, .int .i64 0, .int .i64 0, .int .i64 0, .int .i64 0, .string ⟨#[]⟩], .slice (some ⟨h, 0, none⟩) 3 3] w fun e w' => ∃ A c, e = .returned (.agg #[.int .i64 7, .int .i64 1, .int .i64 0, .int .i64 0, .int .i64 1000, .slice A 2 c, .int .i64 0, .int .i64 0, .int .i64 3, .int .i64 0, .int .i64 0, .string ⟨#[]⟩]) ∧ Ext w w' ∧ OwnLs w' w.heap.size A hL c := by
  have := fold_any (noSt 7) [hE1, hE2, hE3] none (some ⟨h, 0, none⟩) 0 3 w (RdN.nil_ _ _ _) (es_head hb) ⟨by decide, by decide⟩ (by intro e he; simp at he; rcases he with rfl | rfl | rfl <;> exact ⟨by decide, by decide⟩) (by decide)
  rw [head_fold] at this
  exact this
theorem hd_due (w : World) (A : Option Addr) (c : Nat) (hr : LsRd w A hL) :
    Calls Tryz.prog 8 #[.agg #[.int .i64 7, .int .i64 1, .int .i64 0, .int .i64 0, .int .i64 1000, .slice A 2 c, .int .i64 0, .int .i64 0, .int .i64 3, .int .i64 0, .int .i64 0, .string ⟨#[]⟩]] w fun e w' => e = .returned (.tuple #[.int .i64 1208, .bool true]) ∧ Ext w w' := by
  have := pdue_any hS A c w hr (by decide) (by decide)
  rw [head_valid, if_pos rfl, head_due] at this
  exact this
theorem hd_apply (w : World) (A : Option Addr) (c : Nat) (hr : LsRd w A hL) :
    Calls Tryz.prog 11 #[.agg #[.int .i64 7, .int .i64 1, .int .i64 0, .int .i64 0, .int .i64 1000, .slice A 2 c, .int .i64 0, .int .i64 0, .int .i64 3, .int .i64 0, .int .i64 0, .string ⟨#[]⟩], .agg #[.int .i64 3, .int .i64 7, .int .i64 0, .int .i64 0, .int .i64 1208, .int .i64 0, .int .i64 0, .string ⟨#[]⟩, .int .i64 0, .string ⟨#[]⟩]] w fun e w' => ∃ A' c', e = .returned (.tuple #[.agg #[.int .i64 7, .int .i64 3, .int .i64 0, .int .i64 0, .int .i64 1000, .slice A' 2 c', .int .i64 1208, .int .i64 0, .int .i64 4, .int .i64 0, .int .i64 0, .string ⟨#[]⟩], .int .i64 0]) ∧ Ext w w' ∧ OwnLs w' w.heap.size A' hL c' := by
  have := apply_any hS hE4 A c w hr (by decide) (by decide) (by decide) (by decide)
  rw [head_apply] at this
  exact this
theorem hd_valid (w : World) (A : Option Addr) (c : Nat) (hr : LsRd w A hL) :
    Calls Tryz.prog 12 #[.agg #[.int .i64 7, .int .i64 3, .int .i64 0, .int .i64 0, .int .i64 1000, .slice A 2 c, .int .i64 1208, .int .i64 0, .int .i64 4, .int .i64 0, .int .i64 0, .string ⟨#[]⟩]] w fun e w' => e = .returned (.bool true) ∧ Ext w w' := by
  have := valid_any hT A c w hr (by decide) (by decide)
  rw [head_valid2] at this
  exact this
theorem hd_empty (w : World) : Calls Tryz.prog 10 #[.int .i64 7] w fun e w' => e = .returned (.agg #[.int .i64 7, .int .i64 0, .int .i64 0, .int .i64 0, .int .i64 0, .slice none 0 0, .int .i64 0, .int .i64 0, .int .i64 0, .int .i64 0, .int .i64 0, .string ⟨#[]⟩]) ∧ Ext w w' := empty_any 7 w
set_option maxRecDepth 100000 in
set_option maxHeartbeats 4000000 in
theorem head_any (w : World) : Calls Tryz.prog 4 #[] w fun e w' => e = .returned (.bool true) ∧ Ext w w' := by
  have K0 := Lib.hid hd_empty
  have K1 := Lib.hid hd_fold
  have K2 := Lib.hid hd_due
  have K3 := Lib.hid hd_apply
  have K4 := Lib.hid hd_valid
  go_enter Tryz.func4, Tryz.ntmps4
  go_wp2_with (first
    | (go_at_call 10; (with_reducible refine (K0.out _).mono ?_); rintro e w1 ⟨rfl, hx1⟩)
    | (go_at_call 9; (with_reducible refine (K1.out _ _ (BlkN rfl)).mono ?_); rintro e w2 ⟨A2, c2, rfl, hx2, ho2⟩; obtain ⟨lb, _, rfl, _, _⟩ := lown_blk ho2 (by decide))
    | (go_at_call 8; (with_reducible refine (K2.out _ _ _ (LsRd.ext ho2.rd (by repeat (first | with_reducible exact Below.refl _ _ | with_reducible assumption | with_reducible refine ExtD ?_ | with_reducible refine ExtDN ?_ | with_reducible refine ExtA ?_ | (with_reducible refine ExtR ?_ ?_; (first | omega | (dsimp only; omega) | (simp; done) | (simp; omega))) | (with_reducible refine ExtS ?_ ?_; (first | omega | (dsimp only; omega) | (simp; done) | (simp; omega))) | with_reducible refine Ext.tr ?_ (by with_reducible assumption))))).mono ?_); rintro e w3 ⟨rfl, hx3⟩; have b3 : Blk w3 w2.heap.size 25 #[.int .i64 7, .int .i64 1, .int .i64 0, .int .i64 0, .int .i64 1000, .slice (some ⟨lb, 0, none⟩) 2 c2, .int .i64 0, .int .i64 0, .int .i64 3, .int .i64 0, .int .i64 0, .string ⟨#[]⟩] := BlkE (BlkN rfl) hx3; have o3 := (OwnA (o := .cells #[.int .i64 7, .int .i64 1, .int .i64 0, .int .i64 0, .int .i64 1000, .slice (some ⟨lb, 0, none⟩) 2 c2, .int .i64 0, .int .i64 0, .int .i64 3, .int .i64 0, .int .i64 0, .string ⟨#[]⟩] 25) ho2).mono hx3)
    | (go_at_call 11; (with_reducible refine (K3.out _ _ _ (LsRd.ext ho2.rd (by repeat (first | with_reducible exact Below.refl _ _ | with_reducible assumption | with_reducible refine ExtD ?_ | with_reducible refine ExtDN ?_ | with_reducible refine ExtA ?_ | (with_reducible refine ExtR ?_ ?_; (first | omega | (dsimp only; omega) | (simp; done) | (simp; omega))) | (with_reducible refine ExtS ?_ ?_; (first | omega | (dsimp only; omega) | (simp; done) | (simp; omega))) | with_reducible refine Ext.tr ?_ (by with_reducible assumption))))).mono ?_); rintro e w4 ⟨A4, c4, rfl, hx4, ho4⟩; have b4 := fun ob => BlkA (o := ob) (BlkE b3 hx4); have y5 : ∀ ob, (w4.alloc ob).cell? ⟨w2.heap.size, 5, none⟩ = some (.slice (some ⟨lb, 0, none⟩) 2 c2) := fun ob => (b4 ob).cell 5; have y0 : ∀ ob, (w4.alloc ob).cell? ⟨lb, 0, none⟩ = some (.int .i64 1) := fun ob => own_at (OwnA (o := ob) (o3.mono hx4)) (k := 0) (by decide) 0 _ rfl)
    | (go_at_call 12; (with_reducible refine (K4.out _ _ _ (LsRd.ext ho4.rd (by repeat (first | with_reducible exact Below.refl _ _ | with_reducible assumption | with_reducible refine ExtD ?_ | with_reducible refine ExtDN ?_ | with_reducible refine ExtA ?_ | (with_reducible refine ExtR ?_ ?_; (first | omega | (dsimp only; omega) | (simp; done) | (simp; omega))) | (with_reducible refine ExtS ?_ ?_; (first | omega | (dsimp only; omega) | (simp; done) | (simp; omega))) | with_reducible refine Ext.tr ?_ (by with_reducible assumption))))).mono ?_); rintro e w5 ⟨rfl, hx5⟩)
    | (with_reducible refine wpL_load_row rfl 25 (.tmp 1) rfl _ 25 _ 12 rfl b3 st_wide (st_size' _ _ _ _ _ _ _ _ _ _ _ _ _ _) ?_))
  go_ret
  exact ⟨rfl, (by repeat (first | with_reducible exact Below.refl _ _ | with_reducible assumption | with_reducible refine ExtD ?_ | with_reducible refine ExtDN ?_ | with_reducible refine ExtA ?_ | (with_reducible refine ExtR ?_ ?_; (first | omega | (dsimp only; omega) | (simp; done) | (simp; omega))) | (with_reducible refine ExtS ?_ ?_; (first | omega | (dsimp only; omega) | (simp; done) | (simp; omega))) | with_reducible refine Ext.tr ?_ (by with_reducible assumption)))⟩
end Go.Proofs.YtjomgppbialeoaaGreat

