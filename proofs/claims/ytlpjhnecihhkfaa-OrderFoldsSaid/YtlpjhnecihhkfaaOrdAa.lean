/-
  The table of rules; each rule as the plain law says it.
-/
import Derived.Test.YtlpjhnecihhkfaaOrdO
import Derived.Test.YtlpjhnecihhkfaaOrdN
import Derived.Test.YtlpjhnecihhkfaaOrdR
namespace Go.Proofs.Ytlpjhnecihhkfaa
open Go.RowKit
set_option linter.unusedVariables false
set_option linter.unusedSimpArgs false
def RuleOf (F : FuncId) (s : St) (e : Ev) : Prop := ∀ (A : Option Addr) (c g : Nat) (W0 w : World), Ext W0 w → W0.heap.size ≤ g → Blk w g 25 (stcells (bump s e) A c) → OwnLs w W0.heap.size A s.lines c →
  Calls Try.prog F #[.pointer (some ⟨g, 0, none⟩), .agg (evcells e)] w (TurnPost W0 g (rule (bump s e) e))
theorem rule_1 {s : St} {e : Ev} (hf : Fine s e) (hk : e.kind = 1) : RuleOf 60 s e := fun A c g W0 w hx hg hb ho => by
  have := place_any (bump s e) e A c g W0 w hx hg hb ho
  have hr : rule (bump s e) e = { bump s e with status := 1, cur := e.cur, tax := e.tax } := by unfold rule; rw [if_pos hk]
  rw [hr]; exact this
theorem rule_2 {s : St} {e : Ev} (hf : Fine s e) (hk : e.kind = 2) : RuleOf 61 s e := fun A c g W0 w hx hg hb ho => by
  have hr : rule (bump s e) e = { bump s e with lines := more e.item e.price e.qty (bump s e).lines } := by unfold rule; rw [if_neg (by omega), if_pos hk]
  rw [hr]
  cases ht : thereB e.item s.lines with
  | true => exact add_yes (bump s e) e A c g W0 w hx hg hb ho hf.valid.len hf.valid.rises hf.event ht
  | false => exact add_no (bump s e) e A c g W0 w hx hg hb ho hf.valid.len hf.valid.rises hf.event ht
theorem rule_3 {s : St} {e : Ev} (hf : Fine s e) (hk : e.kind = 3) : RuleOf 62 s e := fun A c g W0 w hx hg hb ho => by
  have hr : rule (bump s e) e = { bump s e with paid := s.paid + e.price, status := if s.paid + e.price = due s then 3 else s.status } := by unfold rule; rw [if_neg (by omega), if_neg (by omega), if_neg (by omega), if_pos hk]; rfl
  rw [hr]
  have hnb := net_bound hf.valid.lines_ok
  have hlen := hf.valid.len
  have htb := tax_bound hnb.1 hf.valid.tax.1 hf.valid.tax.2
  have hdu : due s = net s.lines + taxOf (net s.lines) s.tax := rfl
  have hp := hf.valid.paid
  have hrf := hf.valid.refunded
  have hpr := hf.event.price
  have hb2 : -4611686018427387904 ≤ s.paid + e.price ∧ s.paid + e.price ≤ 4611686018427387904 := by omega
  by_cases hd : s.paid + e.price = due s
  · rw [if_pos hd]
    exact pay_yes (bump s e) e A c g W0 w hx hg hb ho hf.valid.lines_ok hf.valid.len hf.valid.tax hb2 hd
  · rw [if_neg hd]
    exact pay_no (bump s e) e A c g W0 w hx hg hb ho hf.valid.lines_ok hf.valid.len hf.valid.tax hb2 hd
theorem there_line {s : St} {item : Int} {l : Ln} (hr : risesB (-1) s.lines = true) (h : lineOf s.lines item = some l) : thereB item s.lines = true ∧ ∀ h : posOf item s.lines < s.lines.length, s.lines[posOf item s.lines] = l := by
  have ht : thereB item s.lines = true := by
    cases ht : thereB item s.lines with
    | true => rfl
    | false => rw [line_not ht] at h; cases h
  obtain ⟨hP, hl⟩ := line_there hr ht
  refine ⟨ht, fun _ => ?_⟩
  rw [hl] at h
  exact Option.some.inj h
theorem rule_4 {s : St} {e : Ev} (hf : Fine s e) (hk : e.kind = 4) : RuleOf 63 s e := fun A c g W0 w hx hg hb ho => by
  obtain ⟨l, hl⟩ := hf.there (.inr hk)
  obtain ⟨ht, hg2⟩ := there_line hf.valid.rises hl
  have hs := hf.ship hk l hl
  have hr : rule (bump s e) e = { bump s e with lines := shipL e.item e.qty s.lines, status := if allB (shipL e.item e.qty s.lines) = true then 4 else s.status } := by unfold rule; rw [if_neg (by omega), if_neg (by omega), if_neg (by omega), if_neg (by omega), if_pos hk]; rfl
  rw [hr]
  exact ship_any (bump s e) e A c g W0 w hx hg hb ho hf.valid.len hf.valid.rises hf.event ht (fun h => by have := hg2 h; show e.qty ≤ (s.lines[posOf e.item s.lines]).qty - (s.lines[posOf e.item s.lines]).shipped; rw [this]; exact hs)
theorem rule_5 {s : St} {e : Ev} (hf : Fine s e) (hk : e.kind = 5) : RuleOf 64 s e := fun A c g W0 w hx hg hb ho => by
  have := cancel_any (bump s e) e A c g W0 w hx hg hb ho
  have hr : rule (bump s e) e = { bump s e with status := 5, prior := 0 } := by unfold rule; rw [if_neg (by omega), if_neg (by omega), if_neg (by omega), if_neg (by omega), if_neg (by omega), if_neg (by omega), if_neg (by omega), if_pos hk]
  rw [hr]; exact this
theorem rule_6 {s : St} {e : Ev} (hf : Fine s e) (hk : e.kind = 6) : RuleOf 65 s e := fun A c g W0 w hx hg hb ho => by
  obtain ⟨l, hl⟩ := hf.there (.inl hk)
  obtain ⟨ht, hg2⟩ := there_line hf.valid.rises hl
  have hd := hf.drop hk l hl
  have hr : rule (bump s e) e = { bump s e with lines := more e.item e.price (-e.qty) (bump s e).lines } := by unfold rule; rw [if_neg (by omega), if_neg (by omega), if_pos hk]
  rw [hr]
  by_cases hq : 0 < l.qty - e.qty
  · exact drop_keeps (bump s e) e A c g W0 w hx hg hb ho hf.valid.len hf.valid.rises hf.event ht (fun h => by have := hg2 h; show 0 < (s.lines[posOf e.item s.lines]).qty - e.qty; rw [this]; exact hq)
  · exact drop_loses (bump s e) e A c g W0 w hx hg hb ho hf.valid.len hf.valid.rises hf.event ht (fun h => by have := hg2 h; show (s.lines[posOf e.item s.lines]).qty - e.qty = 0; rw [this]; omega)
theorem rule_7 {s : St} {e : Ev} (hf : Fine s e) (hk : e.kind = 7) : RuleOf 66 s e := fun A c g W0 w hx hg hb ho => by
  have hnb := net_bound hf.valid.lines_ok
  have hlen := hf.valid.len
  have htb := tax_bound hnb.1 hf.valid.tax.1 hf.valid.tax.2
  have hdu : due s = net s.lines + taxOf (net s.lines) s.tax := rfl
  have hp := hf.valid.paid
  have hrf := hf.valid.refunded
  have hpr := hf.event.price
  have := refund_any (bump s e) e A c g W0 w hx hg hb ho (by show -4611686018427387904 ≤ s.refunded + e.price ∧ s.refunded + e.price ≤ 4611686018427387904; omega)
  have hr : rule (bump s e) e = { bump s e with refunded := s.refunded + e.price } := by unfold rule; rw [if_neg (by omega), if_neg (by omega), if_neg (by omega), if_neg (by omega), if_neg (by omega), if_neg (by omega), if_pos hk]; rfl
  rw [hr]; exact this
theorem rule_8 {s : St} {e : Ev} (hf : Fine s e) (hk : e.kind = 8) : RuleOf 67 s e := fun A c g W0 w hx hg hb ho => by
  have := hold_any (bump s e) e A c g W0 w hx hg hb ho
  have hr : rule (bump s e) e = { bump s e with prior := (bump s e).status, status := 2 } := by unfold rule; rw [if_neg (by omega), if_neg (by omega), if_neg (by omega), if_neg (by omega), if_neg (by omega), if_neg (by omega), if_neg (by omega), if_neg (by omega), if_pos hk]
  rw [hr]; exact this
theorem rule_9 {s : St} {e : Ev} (hf : Fine s e) (hk : e.kind = 9) : RuleOf 68 s e := fun A c g W0 w hx hg hb ho => by
  have := release_any (bump s e) e A c g W0 w hx hg hb ho
  have hr : rule (bump s e) e = { bump s e with status := (bump s e).prior, prior := 0 } := by unfold rule; rw [if_neg (by omega), if_neg (by omega), if_neg (by omega), if_neg (by omega), if_neg (by omega), if_neg (by omega), if_neg (by omega), if_neg (by omega), if_neg (by omega), if_pos hk]
  rw [hr]; exact this
theorem rule_10 {s : St} {e : Ev} (hf : Fine s e) (hk : e.kind = 10) : RuleOf 69 s e := fun A c g W0 w hx hg hb ho => by
  have := clear_any (bump s e) e A c g W0 w hx hg hb ho hf.valid.len
  have hr : rule (bump s e) e = { bump s e with lines := clearL (bump s e).lines, status := 4 } := by unfold rule; rw [if_neg (by omega), if_neg (by omega), if_neg (by omega), if_neg (by omega), if_neg (by omega), if_pos hk]
  rw [hr]; exact this
abbrev ruleTab : Array Value := #[.nilFunc, .func (.func 60) #[] #[], .func (.func 61) #[] #[], .func (.func 62) #[] #[], .func (.func 63) #[] #[], .func (.func 64) #[] #[], .func (.func 65) #[] #[], .func (.func 66) #[] #[], .func (.func 67) #[] #[], .func (.func 68) #[] #[], .func (.func 69) #[] #[]]
theorem tab_wide : Wide Try.prog 69 11 := ⟨⟨_, Try.underlying69, rfl⟩, by kernel_rfl⟩
theorem tab_one : ∀ v ∈ ruleTab.toList, v.oneCell' = true := by
  intro v hv; simp [ruleTab] at hv; rcases hv with rfl | rfl | rfl | rfl | rfl | rfl | rfl | rfl | rfl | rfl | rfl <;> rfl
abbrev nilTab : Array Value := #[.nilFunc, .nilFunc, .nilFunc, .nilFunc, .nilFunc, .nilFunc, .nilFunc, .nilFunc, .nilFunc, .nilFunc, .nilFunc]
theorem tab_size : ruleTab.size = 11 := rfl
theorem tab_size2 : ruleTab.size = nilTab.size := rfl
theorem rules_any (w : World) : Calls Try.prog 48 #[] w fun e w' => e = .returned (.agg ruleTab) ∧ Ext w w' := by
  go_enter Try.func48, Try.ntmps48
  go_wp2_with (with_reducible refine wpL_store_row rfl 69 (.tmp 0) (.tmp 1) rfl _ 69 _ _ rfl rfl (BlkN rfl) tab_size2 tab_one 11 tab_wide tab_size ?_)
  refine bodyPost_ret (res_row rfl _ _ _ 69 _ 11 rfl (Blk.setRow_ (BlkN rfl)) tab_wide rfl) rfl ?_
  exact ⟨rfl, exA⟩
end Go.Proofs.Ytlpjhnecihhkfaa
