/-
  The walks of the reference's Net, Untouched, Whole, Stands, Due.
-/
import Derived.Test.YtlpjhnecihhkfaaOrdW
import Derived.Test.YtlpjhnecihhkfaaLongW9
import Derived.Handy
import Derived.Deep.RegionHeld3
namespace Go.Proofs.Ytlpjhnecihhkfaa
open Go.RowKit
set_option linter.unusedVariables false
set_option linter.unusedSimpArgs false
set_option maxRecDepth 100000 in
set_option maxHeartbeats 2000000 in
theorem rnet_any (s : St) (A : Option Addr) (c : Nat) (w : World) (hr : LsRd w A s.lines) (hl : ∀ l ∈ s.lines, lnB l = true) (hn : s.lines.length ≤ 16) :
    Calls Try.prog 44 #[.agg (stcells s A c)] w fun e w' => e = .returned (.int .i64 (net s.lines)) ∧ Ext w w' := by
  obtain ⟨n, hnn⟩ : ∃ n, n = s.lines.length := ⟨_, rfl⟩
  unfold stcells
  rw [← hnn] at hn ⊢
  have HN := Lib.hid hnn
  clear hnn
  go_enter Try.func44, Try.ntmps44
  go_wp2_with fail
  go_loopw [3, 8] (fun c3 c8 wr => NetR (w.alloc (.cells #[.int .i64 s.order, .int .i64 s.status, .int .i64 s.prior, .int .i64 s.cur, .int .i64 s.tax, .slice A n c, .int .i64 s.paid, .int .i64 s.refunded, .int .i64 s.events, .int .i64 s.refused, .int .i64 s.stamp, .string s.who] 25)) s.lines c3 c8 wr) (fun _ c8 _ => n - (intOf c8).toNat)
  case atStart => exact ⟨0, rfl, rfl, by omega, Below.refl _ _⟩
  case round =>
    obtain ⟨k, rfl, rfl, hk, hx⟩ := hrel
    rw [← HN.out] at hk
    by_cases hlt : k < n
    · skip
      obtain ⟨b, o, rfl, hc⟩ := ls_at hr (show k < s.lines.length by rw [← HN.out]; exact hlt)
      have hx0 : Ext w wr := Ext.tr (ExtA (Ext.rfl' w)) hx
      have Hc := Lib.hid (range_ext hc hx0)
      have a5 : wr.cell? ⟨w.heap.size, 5, none⟩ = some (.slice (some ⟨b, o, none⟩) n c) := (Ext.blk hx (BlkN rfl)).cell 5
      have hkn : (k : Int) < (n : Int) := by omega
      have hk0 : (0 : Int) ≤ (k : Int) := by omega
      have hp := prod_ok (hl _ (List.getElem_mem (show k < s.lines.length by rw [← HN.out]; exact hlt)))
      have hb := net_bound (ls := s.lines.take k) fun l h => hl l (List.mem_of_mem_take h)
      have hb2 : (s.lines.take k).length ≤ 16 := by simp; omega
      have Hs := Lib.hid (net_take (ls := s.lines) (k := k) (show k < s.lines.length by rw [← HN.out]; exact hlt))
      clear hc
      generalize s.lines[k]'(by rw [← HN.out]; exact hlt) = l at *
      generalize net (s.lines.take k) = m at *
      obtain ⟨li, lp, lq, lsh⟩ := l
      unfold lncells at Hc
      dsimp only at *
      have e0 : wr.cell? ⟨b, o + k * 4, none⟩ = some (.int .i64 li) := Hc.out 0 _ rfl
      have e1 : wr.cell? ⟨b, o + k * 4 + 1, none⟩ = some (.int .i64 lp) := Hc.out 1 _ rfl
      have e2 : wr.cell? ⟨b, o + k * 4 + 2, none⟩ = some (.int .i64 lq) := Hc.out 2 _ rfl
      have e3 : wr.cell? ⟨b, o + k * 4 + 3, none⟩ = some (.int .i64 lsh) := Hc.out 3 _ rfl
      have hw1 : IntKind.i64.wrap (lq * lp) = lq * lp := by rw [IntKind.wrap_i64]; omega
      have hw2 : IntKind.i64.wrap (m + lq * lp) = m + lq * lp := by rw [IntKind.wrap_i64]; omega
      go_wp2_with fail
      all_goals try go_region
      all_goals (go_wp2_with fail)
      refine And.intro ?_ ?_
      · exact ⟨k + 1, by rw [Hs.out], by go_num, by have := HN.out; omega, exA⟩
      · simp [intOf]; omega
    · obtain rfl : k = n := by omega
      have htk : s.lines.take k = s.lines := List.take_of_length_le (by have := HN.out; omega)
      rw [htk]
      go_wp2_with fail
      go_ret
      exact ⟨rfl, Ext.tr (ExtA (Ext.rfl' w)) exA⟩
def UnR (W : World) (ls : List Ln) (c7 : Value) (wr : World) : Prop := ∃ k : Nat, c7 = .int .i64 (k : Nat) ∧ k ≤ ls.length ∧ noneB (ls.take k) = true ∧ Ext W wr
theorem noneB_pre {ls : List Ln} {k : Nat} (h : noneB (ls.take k) = false) : noneB ls = false := by
  cases h2 : noneB ls with
  | false => rfl
  | true =>
    have h3 : noneB (ls.take k) = true := by
      unfold noneB at h2 ⊢
      rw [List.all_eq_true] at h2 ⊢
      exact fun l hl => h2 l (List.mem_of_mem_take hl)
    rw [h3] at h; cases h
set_option maxRecDepth 100000 in
set_option maxHeartbeats 2000000 in
theorem untouched_any (s : St) (A : Option Addr) (c : Nat) (w : World) (hr : LsRd w A s.lines) (hl : ∀ l ∈ s.lines, 0 ≤ l.shipped) (hn : s.lines.length ≤ 4611686018427387904) :
    Calls Try.prog 33 #[.agg (stcells s A c)] w fun e w' => e = .returned (.bool (noneB s.lines)) ∧ Ext w w' := by
  obtain ⟨n, hnn⟩ : ∃ n, n = s.lines.length := ⟨_, rfl⟩
  unfold stcells
  rw [← hnn] at hn ⊢
  have HN := Lib.hid hnn
  clear hnn
  go_enter Try.func33, Try.ntmps33
  go_wp2_with fail
  go_loopw [7] (fun c7 wr => UnR (w.alloc (.cells #[.int .i64 s.order, .int .i64 s.status, .int .i64 s.prior, .int .i64 s.cur, .int .i64 s.tax, .slice A n c, .int .i64 s.paid, .int .i64 s.refunded, .int .i64 s.events, .int .i64 s.refused, .int .i64 s.stamp, .string s.who] 25)) s.lines c7 wr) (fun c7 _ => n - (intOf c7).toNat)
  case atStart => exact ⟨0, rfl, by omega, rfl, Below.refl _ _⟩
  case round =>
    obtain ⟨k, rfl, hk, hv, hx⟩ := hrel
    rw [← HN.out] at hk
    have Hv := Lib.hid hv
    clear hv
    by_cases hlt : k < n
    · skip
      obtain ⟨b, o, rfl, hc⟩ := ls_at hr (show k < s.lines.length by rw [← HN.out]; exact hlt)
      have hx0 : Ext w wr := Ext.tr (ExtA (Ext.rfl' w)) hx
      have Hc := Lib.hid (range_ext hc hx0)
      have a5 : wr.cell? ⟨w.heap.size, 5, none⟩ = some (.slice (some ⟨b, o, none⟩) n c) := (Ext.blk hx (BlkN rfl)).cell 5
      have hkn : (k : Int) < (n : Int) := by omega
      have hk0 : (0 : Int) ≤ (k : Int) := by omega
      have hp := hl _ (List.getElem_mem (show k < s.lines.length by rw [← HN.out]; exact hlt))
      have Hs := Lib.hid (noneB_take (ls := s.lines) (k := k) (show k < s.lines.length by rw [← HN.out]; exact hlt))
      have Hp := Lib.hid (noneB_pre (ls := s.lines) (k := k + 1))
      clear hc
      generalize s.lines[k]'(by rw [← HN.out]; exact hlt) = l at *
      obtain ⟨li, lp, lq, lsh⟩ := l
      unfold lncells at Hc
      dsimp only at *
      have e0 : wr.cell? ⟨b, o + k * 4, none⟩ = some (.int .i64 li) := Hc.out 0 _ rfl
      have e1 : wr.cell? ⟨b, o + k * 4 + 1, none⟩ = some (.int .i64 lp) := Hc.out 1 _ rfl
      have e2 : wr.cell? ⟨b, o + k * 4 + 2, none⟩ = some (.int .i64 lq) := Hc.out 2 _ rfl
      have e3 : wr.cell? ⟨b, o + k * 4 + 3, none⟩ = some (.int .i64 lsh) := Hc.out 3 _ rfl
      by_cases hz : 0 < lsh
      · have Hz := Lib.hid hz
        go_wp2_with fail
        all_goals try go_region
        all_goals (go_wp2_with fail)
        go_ret
        exact ⟨by rw [Hp.out (by rw [Hs.out, Hv.out]; have := Hz.out; simp; omega)]; rfl, Ext.tr (ExtA (Ext.rfl' w)) exA⟩
      · have Hz := Lib.hid hz
        go_wp2_with fail
        all_goals try go_region
        all_goals (go_wp2_with fail)
        refine And.intro ?_ ?_
        · exact ⟨k + 1, by go_num, by have := HN.out; omega, by rw [Hs.out, Hv.out]; have := Hz.out; simp; omega, exA⟩
        · simp [intOf]; omega
    · obtain rfl : k = n := by omega
      have htk : s.lines.take k = s.lines := List.take_of_length_le (by have := HN.out; omega)
      rw [htk] at Hv
      go_wp2_with fail
      go_ret
      exact ⟨by rw [Hv.out]; rfl, Ext.tr (ExtA (Ext.rfl' w)) exA⟩
def WhR (W : World) (ls : List Ln) (c7 : Value) (wr : World) : Prop := ∃ k : Nat, c7 = .int .i64 (k : Nat) ∧ k ≤ ls.length ∧ allB (ls.take k) = true ∧ Ext W wr
theorem allB_pre {ls : List Ln} {k : Nat} (h : allB (ls.take k) = false) : allB ls = false := by
  cases h2 : allB ls with
  | false => rfl
  | true =>
    have h3 : allB (ls.take k) = true := by
      unfold allB at h2 ⊢
      rw [List.all_eq_true] at h2 ⊢
      exact fun l hl => h2 l (List.mem_of_mem_take hl)
    rw [h3] at h; cases h
set_option maxRecDepth 100000 in
set_option maxHeartbeats 2000000 in
theorem whole_any (s : St) (A : Option Addr) (c : Nat) (w : World) (hr : LsRd w A s.lines) (hl : ∀ l ∈ s.lines, l.shipped ≤ l.qty) (hn : s.lines.length ≤ 4611686018427387904) :
    Calls Try.prog 34 #[.agg (stcells s A c)] w fun e w' => e = .returned (.bool (allB s.lines)) ∧ Ext w w' := by
  obtain ⟨n, hnn⟩ : ∃ n, n = s.lines.length := ⟨_, rfl⟩
  unfold stcells
  rw [← hnn] at hn ⊢
  have HN := Lib.hid hnn
  clear hnn
  go_enter Try.func34, Try.ntmps34
  go_wp2_with fail
  go_loopw [7] (fun c7 wr => WhR (w.alloc (.cells #[.int .i64 s.order, .int .i64 s.status, .int .i64 s.prior, .int .i64 s.cur, .int .i64 s.tax, .slice A n c, .int .i64 s.paid, .int .i64 s.refunded, .int .i64 s.events, .int .i64 s.refused, .int .i64 s.stamp, .string s.who] 25)) s.lines c7 wr) (fun c7 _ => n - (intOf c7).toNat)
  case atStart => exact ⟨0, rfl, by omega, rfl, Below.refl _ _⟩
  case round =>
    obtain ⟨k, rfl, hk, hv, hx⟩ := hrel
    rw [← HN.out] at hk
    have Hv := Lib.hid hv
    clear hv
    by_cases hlt : k < n
    · skip
      obtain ⟨b, o, rfl, hc⟩ := ls_at hr (show k < s.lines.length by rw [← HN.out]; exact hlt)
      have hx0 : Ext w wr := Ext.tr (ExtA (Ext.rfl' w)) hx
      have Hc := Lib.hid (range_ext hc hx0)
      have a5 : wr.cell? ⟨w.heap.size, 5, none⟩ = some (.slice (some ⟨b, o, none⟩) n c) := (Ext.blk hx (BlkN rfl)).cell 5
      have hkn : (k : Int) < (n : Int) := by omega
      have hk0 : (0 : Int) ≤ (k : Int) := by omega
      have hp := hl _ (List.getElem_mem (show k < s.lines.length by rw [← HN.out]; exact hlt))
      have Hs := Lib.hid (allB_take (ls := s.lines) (k := k) (show k < s.lines.length by rw [← HN.out]; exact hlt))
      have Hp := Lib.hid (allB_pre (ls := s.lines) (k := k + 1))
      clear hc
      generalize s.lines[k]'(by rw [← HN.out]; exact hlt) = l at *
      obtain ⟨li, lp, lq, lsh⟩ := l
      unfold lncells at Hc
      dsimp only at *
      have e0 : wr.cell? ⟨b, o + k * 4, none⟩ = some (.int .i64 li) := Hc.out 0 _ rfl
      have e1 : wr.cell? ⟨b, o + k * 4 + 1, none⟩ = some (.int .i64 lp) := Hc.out 1 _ rfl
      have e2 : wr.cell? ⟨b, o + k * 4 + 2, none⟩ = some (.int .i64 lq) := Hc.out 2 _ rfl
      have e3 : wr.cell? ⟨b, o + k * 4 + 3, none⟩ = some (.int .i64 lsh) := Hc.out 3 _ rfl
      by_cases hz : lsh < lq
      · have Hz := Lib.hid hz
        go_wp2_with fail
        all_goals try go_region
        all_goals (go_wp2_with fail)
        go_ret
        exact ⟨by rw [Hp.out (by rw [Hs.out, Hv.out]; have := Hz.out; simp; omega)]; rfl, Ext.tr (ExtA (Ext.rfl' w)) exA⟩
      · have Hz := Lib.hid hz
        go_wp2_with fail
        all_goals try go_region
        all_goals (go_wp2_with fail)
        refine And.intro ?_ ?_
        · exact ⟨k + 1, by go_num, by have := HN.out; omega, by rw [Hs.out, Hv.out]; have := Hz.out; simp; omega, exA⟩
        · simp [intOf]; omega
    · obtain rfl : k = n := by omega
      have htk : s.lines.take k = s.lines := List.take_of_length_le (by have := HN.out; omega)
      rw [htk] at Hv
      go_wp2_with fail
      go_ret
      exact ⟨by rw [Hv.out]; rfl, Ext.tr (ExtA (Ext.rfl' w)) exA⟩
theorem stands_any (s : St) (A : Option Addr) (c : Nat) (w : World) :
    Calls Try.prog 32 #[.agg (stcells s A c)] w fun e w' => e = .returned (.int .i64 (standsAt s)) ∧ Ext w w' := by
  unfold stcells standsAt
  by_cases h : s.status = 2
  · go_enter Try.func32, Try.ntmps32
    go_wp2_with fail
    go_ret
    exact ⟨by simp [h], exA⟩
  · go_enter Try.func32, Try.ntmps32
    go_wp2_with fail
    go_ret
    exact ⟨by simp [h], exA⟩
set_option maxRecDepth 100000 in
set_option maxHeartbeats 2000000 in
theorem rdue_any (s : St) (A : Option Addr) (c : Nat) (w : World) (hr : LsRd w A s.lines) (hl : ∀ l ∈ s.lines, lnB l = true) (hn : s.lines.length ≤ 16) (ht : 0 ≤ s.tax ∧ s.tax ≤ 5000) :
    Calls Try.prog 24 #[.agg (stcells s A c)] w fun e w' => e = .returned (.int .i64 (due s)) ∧ Ext w w' := by
  have hb := lines_net hl hn
  have htx := tax_bound hb.1 ht.1 ht.2
  have Hd : Hid (due s = net s.lines + taxOf (net s.lines) s.tax) := Lib.hid rfl
  have Kn : Hid (∀ w', LsRd w' A s.lines → Calls Try.prog 44 #[.agg (stcells s A c)] w' fun e w2 => e = .returned (.int .i64 (net s.lines)) ∧ Ext w' w2) := Lib.hid fun w' hx => rnet_any s A c w' hx hl hn
  have Km : Hid (∀ w', Calls Try.prog 43 #[.int .i64 (net s.lines), .int .i64 s.tax, .int .i64 10000] w' fun e w2 => e = .returned (.tuple #[.int .i64 (taxOf (net s.lines) s.tax), .bool (mdF (net s.lines) s.tax 10000)]) ∧ Ext w' w2) := Lib.hid fun w' => by
    have h := refmd_any (net s.lines) s.tax 10000 w' (by omega) (by omega) (by omega) (by omega) (by omega) (by omega)
    rw [md_tax hb.1 hb.2 ht.1 ht.2] at h
    exact h
  generalize taxOf (net s.lines) s.tax = X at *
  generalize mdF (net s.lines) s.tax 10000 = F at *
  generalize net s.lines = N at *
  generalize due s = D at *
  obtain ⟨order, status, prior, cur, tax, ls, paid, refunded, events, refused, stamp, who⟩ := s
  unfold stcells at Kn ⊢
  dsimp only at *
  generalize ls.length = n at *
  have HS := Lib.hid (fun w' (h : Ext (w.alloc (.cells #[.int .i64 order, .int .i64 status, .int .i64 prior, .int .i64 cur, .int .i64 tax, .slice A n c, .int .i64 paid, .int .i64 refunded, .int .i64 events, .int .i64 refused, .int .i64 stamp, .string who] 25)) w') => (⟨h, (Ext.blk h (BlkN rfl)).cell 0, (Ext.blk h (BlkN rfl)).cell 1, (Ext.blk h (BlkN rfl)).cell 2, (Ext.blk h (BlkN rfl)).cell 3, (Ext.blk h (BlkN rfl)).cell 4, (Ext.blk h (BlkN rfl)).cell 5, (Ext.blk h (BlkN rfl)).cell 6, (Ext.blk h (BlkN rfl)).cell 7, (Ext.blk h (BlkN rfl)).cell 8, (Ext.blk h (BlkN rfl)).cell 9, (Ext.blk h (BlkN rfl)).cell 10, (Ext.blk h (BlkN rfl)).cell 11⟩ : (fun w' : World => Ext (w.alloc (.cells #[.int .i64 order, .int .i64 status, .int .i64 prior, .int .i64 cur, .int .i64 tax, .slice A n c, .int .i64 paid, .int .i64 refunded, .int .i64 events, .int .i64 refused, .int .i64 stamp, .string who] 25)) w' ∧ w'.cell? ⟨w.heap.size, 0, none⟩ = some (.int .i64 order) ∧ w'.cell? ⟨w.heap.size, 1, none⟩ = some (.int .i64 status) ∧ w'.cell? ⟨w.heap.size, 2, none⟩ = some (.int .i64 prior) ∧ w'.cell? ⟨w.heap.size, 3, none⟩ = some (.int .i64 cur) ∧ w'.cell? ⟨w.heap.size, 4, none⟩ = some (.int .i64 tax) ∧ w'.cell? ⟨w.heap.size, 5, none⟩ = some (.slice A n c) ∧ w'.cell? ⟨w.heap.size, 6, none⟩ = some (.int .i64 paid) ∧ w'.cell? ⟨w.heap.size, 7, none⟩ = some (.int .i64 refunded) ∧ w'.cell? ⟨w.heap.size, 8, none⟩ = some (.int .i64 events) ∧ w'.cell? ⟨w.heap.size, 9, none⟩ = some (.int .i64 refused) ∧ w'.cell? ⟨w.heap.size, 10, none⟩ = some (.int .i64 stamp) ∧ w'.cell? ⟨w.heap.size, 11, none⟩ = some (.string who)) w'))
  have hw1 : IntKind.i64.wrap (N + X) = N + X := by rw [IntKind.wrap_i64]; omega
  go_enter Try.func24, Try.ntmps24
  go_wp2_with fail
  go_region_held3 (fun w' : World => Ext (w.alloc (.cells #[.int .i64 order, .int .i64 status, .int .i64 prior, .int .i64 cur, .int .i64 tax, .slice A n c, .int .i64 paid, .int .i64 refunded, .int .i64 events, .int .i64 refused, .int .i64 stamp, .string who] 25)) w' ∧ w'.cell? ⟨w.heap.size, 0, none⟩ = some (.int .i64 order) ∧ w'.cell? ⟨w.heap.size, 1, none⟩ = some (.int .i64 status) ∧ w'.cell? ⟨w.heap.size, 2, none⟩ = some (.int .i64 prior) ∧ w'.cell? ⟨w.heap.size, 3, none⟩ = some (.int .i64 cur) ∧ w'.cell? ⟨w.heap.size, 4, none⟩ = some (.int .i64 tax) ∧ w'.cell? ⟨w.heap.size, 5, none⟩ = some (.slice A n c) ∧ w'.cell? ⟨w.heap.size, 6, none⟩ = some (.int .i64 paid) ∧ w'.cell? ⟨w.heap.size, 7, none⟩ = some (.int .i64 refunded) ∧ w'.cell? ⟨w.heap.size, 8, none⟩ = some (.int .i64 events) ∧ w'.cell? ⟨w.heap.size, 9, none⟩ = some (.int .i64 refused) ∧ w'.cell? ⟨w.heap.size, 10, none⟩ = some (.int .i64 stamp) ∧ w'.cell? ⟨w.heap.size, 11, none⟩ = some (.string who)) (exact HS.out _ exA) (first
    | (go_at_call 44; (with_reducible refine (Kn.out _ (hr.ext exA)).mono ?_); rintro e w1 ⟨rfl, hx1⟩)
    | (go_at_call 43; (with_reducible refine (Km.out _).mono ?_); rintro e w2 ⟨rfl, hx2⟩; have h3 := HS.out w2 exA; go_split_ands))
  go_wp2_with (go_at_call 44; (with_reducible refine (Kn.out _ (hr.ext exA)).mono ?_); rintro e w3 ⟨rfl, hx3⟩)
  go_ret
  exact ⟨by rw [Hd.out]; rfl, exA⟩
end Go.Proofs.Ytlpjhnecihhkfaa
