/-
  The walks of the reference's Net, Untouched, Whole, Stands, Due.
-/
/-
  The walk of the reference's Lines.
-/
/-
  The reference's Check: what it looks at. (Written by wip/tools/gen_rcheck.py.)
-/
/-
  The walk of the reference's Check at version 4. (Written by wip/tools/gen_rcheck.py.)
-/
/-
  The walk of the reference's Valid.
-/
import Derived.Test.YtjajbbgebblalaaGreatDoorShrT
import Derived.Test.YtjajbbgebblalaaGreatDoorOrdW
import Derived.Test.YtjajbbgebblalaaGreatDoorLongW1
import Derived.Handy
import Derived.Deep.RegionHeld3
import Derived.Test.YtjajbbgebblalaaGreatDoorOrdS
namespace Go.Proofs.YtjajbbgebblalaaGreatDoor
open Go.RowKit
set_option linter.unusedVariables false
set_option linter.unusedSimpArgs false
set_option maxRecDepth 100000 in
set_option maxHeartbeats 2000000 in
theorem rnet_any (s : St) (A : Option Addr) (c : Nat) (w : World) (hr : LsRd w A s.lines) (hl : ∀ l ∈ s.lines, lnB l = true) (hn : s.lines.length ≤ 16) :
    Calls Tryz.prog 209 #[.agg (stcells s A c)] w fun e w' => e = .returned (.int .i64 (net s.lines)) ∧ Ext w w' := by
  obtain ⟨n, hnn⟩ : ∃ n, n = s.lines.length := ⟨_, rfl⟩
  unfold stcells
  rw [← hnn] at hn ⊢
  have HN := Lib.hid hnn
  clear hnn
  go_enter Tryz.func209, Tryz.ntmps209
  go_wp2_with fail
  go_loopw [3, 8] (fun c3 c8 wr => NetR (w.alloc (.cells #[.int .i64 s.order, .int .i64 s.status, .int .i64 s.prior, .int .i64 s.cur, .int .i64 s.tax, .slice A n c, .int .i64 s.paid, .int .i64 s.refunded, .int .i64 s.events, .int .i64 s.refused, .int .i64 s.stamp, .string s.who] 77)) s.lines c3 c8 wr) (fun _ c8 _ => n - (intOf c8).toNat)
  case atStart => exact ⟨0, rfl, rfl, by omega, Below.refl _ _⟩
  case round =>
    obtain ⟨k, rfl, rfl, hk, hx⟩ := hrel
    rw [← HN.out] at hk
    by_cases hlt : k < n
    · skip
      obtain ⟨b, o, rfl, hc⟩ := ls_at hr (show k < s.lines.length by rw [← HN.out]; exact hlt)
      have hx0 : Ext w wr := Ext.tr (ExtA (Ext.rfl' w)) hx
      have Hc := Lib.hid (range_ext hc hx0)
      have a5 : wr.cell? ⟨w.heap.size, 5, none⟩ = some (.slice (some ⟨b, o, none⟩) n c) := (Ext.blk hx (BlkN rfl)).cell 5
      have hkn : (k : Int) < (n : Int) := by omega
      have hk0 : (0 : Int) ≤ (k : Int) := by omega
      have hp := prod_ok (hl _ (List.getElem_mem (show k < s.lines.length by rw [← HN.out]; exact hlt)))
      have hb := net_bound (ls := s.lines.take k) fun l h => hl l (List.mem_of_mem_take h)
      have hb2 : (s.lines.take k).length ≤ 16 := by simp; omega
      have Hs := Lib.hid (net_take (ls := s.lines) (k := k) (show k < s.lines.length by rw [← HN.out]; exact hlt))
      clear hc
      generalize s.lines[k]'(by rw [← HN.out]; exact hlt) = l at *
      generalize net (s.lines.take k) = m at *
      obtain ⟨li, lp, lq, lsh⟩ := l
      unfold lncells at Hc
      dsimp only at *
      have e0 : wr.cell? ⟨b, o + k * 4, none⟩ = some (.int .i64 li) := Hc.out 0 _ rfl
      have e1 : wr.cell? ⟨b, o + k * 4 + 1, none⟩ = some (.int .i64 lp) := Hc.out 1 _ rfl
      have e2 : wr.cell? ⟨b, o + k * 4 + 2, none⟩ = some (.int .i64 lq) := Hc.out 2 _ rfl
      have e3 : wr.cell? ⟨b, o + k * 4 + 3, none⟩ = some (.int .i64 lsh) := Hc.out 3 _ rfl
      have hw1 : IntKind.i64.wrap (lq * lp) = lq * lp := by rw [IntKind.wrap_i64]; omega
      have hw2 : IntKind.i64.wrap (m + lq * lp) = m + lq * lp := by rw [IntKind.wrap_i64]; omega
      go_wp2_with fail
      all_goals try go_region
      all_goals (go_wp2_with fail)
      refine And.intro ?_ ?_
      · exact ⟨k + 1, by rw [Hs.out], by go_num, by have := HN.out; omega, exA⟩
      · simp [intOf]; omega
    · obtain rfl : k = n := by omega
      have htk : s.lines.take k = s.lines := List.take_of_length_le (by have := HN.out; omega)
      rw [htk]
      go_wp2_with fail
      go_ret
      exact ⟨rfl, Ext.tr (ExtA (Ext.rfl' w)) exA⟩
def UnR (W : World) (ls : List Ln) (c7 : Value) (wr : World) : Prop := ∃ k : Nat, c7 = .int .i64 (k : Nat) ∧ k ≤ ls.length ∧ noneB (ls.take k) = true ∧ Ext W wr
theorem noneB_pre {ls : List Ln} {k : Nat} (h : noneB (ls.take k) = false) : noneB ls = false := by
  cases h2 : noneB ls with
  | false => rfl
  | true =>
    have h3 : noneB (ls.take k) = true := by
      unfold noneB at h2 ⊢
      rw [List.all_eq_true] at h2 ⊢
      exact fun l hl => h2 l (List.mem_of_mem_take hl)
    rw [h3] at h; cases h
set_option maxRecDepth 100000 in
set_option maxHeartbeats 2000000 in
theorem untouched_any (s : St) (A : Option Addr) (c : Nat) (w : World) (hr : LsRd w A s.lines) (hl : ∀ l ∈ s.lines, 0 ≤ l.shipped) (hn : s.lines.length ≤ 4611686018427387904) :
    Calls Tryz.prog 153 #[.agg (stcells s A c)] w fun e w' => e = .returned (.bool (noneB s.lines)) ∧ Ext w w' := by
  obtain ⟨n, hnn⟩ : ∃ n, n = s.lines.length := ⟨_, rfl⟩
  unfold stcells
  rw [← hnn] at hn ⊢
  have HN := Lib.hid hnn
  clear hnn
  go_enter Tryz.func153, Tryz.ntmps153
  go_wp2_with fail
  go_loopw [7] (fun c7 wr => UnR (w.alloc (.cells #[.int .i64 s.order, .int .i64 s.status, .int .i64 s.prior, .int .i64 s.cur, .int .i64 s.tax, .slice A n c, .int .i64 s.paid, .int .i64 s.refunded, .int .i64 s.events, .int .i64 s.refused, .int .i64 s.stamp, .string s.who] 77)) s.lines c7 wr) (fun c7 _ => n - (intOf c7).toNat)
  case atStart => exact ⟨0, rfl, by omega, rfl, Below.refl _ _⟩
  case round =>
    obtain ⟨k, rfl, hk, hv, hx⟩ := hrel
    rw [← HN.out] at hk
    have Hv := Lib.hid hv
    clear hv
    by_cases hlt : k < n
    · skip
      obtain ⟨b, o, rfl, hc⟩ := ls_at hr (show k < s.lines.length by rw [← HN.out]; exact hlt)
      have hx0 : Ext w wr := Ext.tr (ExtA (Ext.rfl' w)) hx
      have Hc := Lib.hid (range_ext hc hx0)
      have a5 : wr.cell? ⟨w.heap.size, 5, none⟩ = some (.slice (some ⟨b, o, none⟩) n c) := (Ext.blk hx (BlkN rfl)).cell 5
      have hkn : (k : Int) < (n : Int) := by omega
      have hk0 : (0 : Int) ≤ (k : Int) := by omega
      have hp := hl _ (List.getElem_mem (show k < s.lines.length by rw [← HN.out]; exact hlt))
      have Hs := Lib.hid (noneB_take (ls := s.lines) (k := k) (show k < s.lines.length by rw [← HN.out]; exact hlt))
      have Hp := Lib.hid (noneB_pre (ls := s.lines) (k := k + 1))
      clear hc
      generalize s.lines[k]'(by rw [← HN.out]; exact hlt) = l at *
      obtain ⟨li, lp, lq, lsh⟩ := l
      unfold lncells at Hc
      dsimp only at *
      have e0 : wr.cell? ⟨b, o + k * 4, none⟩ = some (.int .i64 li) := Hc.out 0 _ rfl
      have e1 : wr.cell? ⟨b, o + k * 4 + 1, none⟩ = some (.int .i64 lp) := Hc.out 1 _ rfl
      have e2 : wr.cell? ⟨b, o + k * 4 + 2, none⟩ = some (.int .i64 lq) := Hc.out 2 _ rfl
      have e3 : wr.cell? ⟨b, o + k * 4 + 3, none⟩ = some (.int .i64 lsh) := Hc.out 3 _ rfl
      by_cases hz : 0 < lsh
      · have Hz := Lib.hid hz
        go_wp2_with fail
        all_goals try go_region
        all_goals (go_wp2_with fail)
        go_ret
        exact ⟨by rw [Hp.out (by rw [Hs.out, Hv.out]; have := Hz.out; simp; omega)]; rfl, Ext.tr (ExtA (Ext.rfl' w)) exA⟩
      · have Hz := Lib.hid hz
        go_wp2_with fail
        all_goals try go_region
        all_goals (go_wp2_with fail)
        refine And.intro ?_ ?_
        · exact ⟨k + 1, by go_num, by have := HN.out; omega, by rw [Hs.out, Hv.out]; have := Hz.out; simp; omega, exA⟩
        · simp [intOf]; omega
    · obtain rfl : k = n := by omega
      have htk : s.lines.take k = s.lines := List.take_of_length_le (by have := HN.out; omega)
      rw [htk] at Hv
      go_wp2_with fail
      go_ret
      exact ⟨by rw [Hv.out]; rfl, Ext.tr (ExtA (Ext.rfl' w)) exA⟩
def WhR (W : World) (ls : List Ln) (c7 : Value) (wr : World) : Prop := ∃ k : Nat, c7 = .int .i64 (k : Nat) ∧ k ≤ ls.length ∧ allB (ls.take k) = true ∧ Ext W wr
theorem allB_pre {ls : List Ln} {k : Nat} (h : allB (ls.take k) = false) : allB ls = false := by
  cases h2 : allB ls with
  | false => rfl
  | true =>
    have h3 : allB (ls.take k) = true := by
      unfold allB at h2 ⊢
      rw [List.all_eq_true] at h2 ⊢
      exact fun l hl => h2 l (List.mem_of_mem_take hl)
    rw [h3] at h; cases h
set_option maxRecDepth 100000 in
set_option maxHeartbeats 2000000 in
theorem whole_any (s : St) (A : Option Addr) (c : Nat) (w : World) (hr : LsRd w A s.lines) (hl : ∀ l ∈ s.lines, l.shipped ≤ l.qty) (hn : s.lines.length ≤ 4611686018427387904) :
    Calls Tryz.prog 154 #[.agg (stcells s A c)] w fun e w' => e = .returned (.bool (allB s.lines)) ∧ Ext w w' := by
  obtain ⟨n, hnn⟩ : ∃ n, n = s.lines.length := ⟨_, rfl⟩
  unfold stcells
  rw [← hnn] at hn ⊢
  have HN := Lib.hid hnn
  clear hnn
  go_enter Tryz.func154, Tryz.ntmps154
  go_wp2_with fail
  go_loopw [7] (fun c7 wr => WhR (w.alloc (.cells #[.int .i64 s.order, .int .i64 s.status, .int .i64 s.prior, .int .i64 s.cur, .int .i64 s.tax, .slice A n c, .int .i64 s.paid, .int .i64 s.refunded, .int .i64 s.events, .int .i64 s.refused, .int .i64 s.stamp, .string s.who] 77)) s.lines c7 wr) (fun c7 _ => n - (intOf c7).toNat)
  case atStart => exact ⟨0, rfl, by omega, rfl, Below.refl _ _⟩
  case round =>
    obtain ⟨k, rfl, hk, hv, hx⟩ := hrel
    rw [← HN.out] at hk
    have Hv := Lib.hid hv
    clear hv
    by_cases hlt : k < n
    · skip
      obtain ⟨b, o, rfl, hc⟩ := ls_at hr (show k < s.lines.length by rw [← HN.out]; exact hlt)
      have hx0 : Ext w wr := Ext.tr (ExtA (Ext.rfl' w)) hx
      have Hc := Lib.hid (range_ext hc hx0)
      have a5 : wr.cell? ⟨w.heap.size, 5, none⟩ = some (.slice (some ⟨b, o, none⟩) n c) := (Ext.blk hx (BlkN rfl)).cell 5
      have hkn : (k : Int) < (n : Int) := by omega
      have hk0 : (0 : Int) ≤ (k : Int) := by omega
      have hp := hl _ (List.getElem_mem (show k < s.lines.length by rw [← HN.out]; exact hlt))
      have Hs := Lib.hid (allB_take (ls := s.lines) (k := k) (show k < s.lines.length by rw [← HN.out]; exact hlt))
      have Hp := Lib.hid (allB_pre (ls := s.lines) (k := k + 1))
      clear hc
      generalize s.lines[k]'(by rw [← HN.out]; exact hlt) = l at *
      obtain ⟨li, lp, lq, lsh⟩ := l
      unfold lncells at Hc
      dsimp only at *
      have e0 : wr.cell? ⟨b, o + k * 4, none⟩ = some (.int .i64 li) := Hc.out 0 _ rfl
      have e1 : wr.cell? ⟨b, o + k * 4 + 1, none⟩ = some (.int .i64 lp) := Hc.out 1 _ rfl
      have e2 : wr.cell? ⟨b, o + k * 4 + 2, none⟩ = some (.int .i64 lq) := Hc.out 2 _ rfl
      have e3 : wr.cell? ⟨b, o + k * 4 + 3, none⟩ = some (.int .i64 lsh) := Hc.out 3 _ rfl
      by_cases hz : lsh < lq
      · have Hz := Lib.hid hz
        go_wp2_with fail
        all_goals try go_region
        all_goals (go_wp2_with fail)
        go_ret
        exact ⟨by rw [Hp.out (by rw [Hs.out, Hv.out]; have := Hz.out; simp; omega)]; rfl, Ext.tr (ExtA (Ext.rfl' w)) exA⟩
      · have Hz := Lib.hid hz
        go_wp2_with fail
        all_goals try go_region
        all_goals (go_wp2_with fail)
        refine And.intro ?_ ?_
        · exact ⟨k + 1, by go_num, by have := HN.out; omega, by rw [Hs.out, Hv.out]; have := Hz.out; simp; omega, exA⟩
        · simp [intOf]; omega
    · obtain rfl : k = n := by omega
      have htk : s.lines.take k = s.lines := List.take_of_length_le (by have := HN.out; omega)
      rw [htk] at Hv
      go_wp2_with fail
      go_ret
      exact ⟨by rw [Hv.out]; rfl, Ext.tr (ExtA (Ext.rfl' w)) exA⟩
theorem stands_any (s : St) (A : Option Addr) (c : Nat) (w : World) :
    Calls Tryz.prog 152 #[.agg (stcells s A c)] w fun e w' => e = .returned (.int .i64 (standsAt s)) ∧ Ext w w' := by
  unfold stcells standsAt
  by_cases h : s.status = 2
  · go_enter Tryz.func152, Tryz.ntmps152
    go_wp2_with fail
    go_ret
    exact ⟨by simp [h], exA⟩
  · go_enter Tryz.func152, Tryz.ntmps152
    go_wp2_with fail
    go_ret
    exact ⟨by simp [h], exA⟩
set_option maxRecDepth 100000 in
set_option maxHeartbeats 2000000 in
theorem rdue_any (s : St) (A : Option Addr) (c : Nat) (w : World) (hr : LsRd w A s.lines) (hl : ∀ l ∈ s.lines, lnB l = true) (hn : s.lines.length ≤ 16) (ht : 0 ≤ s.tax ∧ s.tax ≤ 5000) :
    Calls Tryz.prog 151 #[.agg (stcells s A c)] w fun e w' => e = .returned (.int .i64 (due s)) ∧ Ext w w' := by
  have hb := lines_net hl hn
  have htx := tax_bound hb.1 ht.1 ht.2
  have Hd : Hid (due s = net s.lines + taxOf (net s.lines) s.tax) := Lib.hid rfl
  have Kn : Hid (∀ w', LsRd w' A s.lines → Calls Tryz.prog 209 #[.agg (stcells s A c)] w' fun e w2 => e = .returned (.int .i64 (net s.lines)) ∧ Ext w' w2) := Lib.hid fun w' hx => rnet_any s A c w' hx hl hn
  have Km : Hid (∀ w', Calls Tryz.prog 208 #[.int .i64 (net s.lines), .int .i64 s.tax, .int .i64 10000] w' fun e w2 => e = .returned (.tuple #[.int .i64 (taxOf (net s.lines) s.tax), .bool (mdF (net s.lines) s.tax 10000)]) ∧ Ext w' w2) := Lib.hid fun w' => by
    have h := refmd_any (net s.lines) s.tax 10000 w' (by omega) (by omega) (by omega) (by omega) (by omega) (by omega)
    rw [md_tax hb.1 hb.2 ht.1 ht.2] at h
    exact h
  generalize taxOf (net s.lines) s.tax = X at *
  generalize mdF (net s.lines) s.tax 10000 = F at *
  generalize net s.lines = N at *
  generalize due s = D at *
  obtain ⟨order, status, prior, cur, tax, ls, paid, refunded, events, refused, stamp, who⟩ := s
  unfold stcells at Kn ⊢
  dsimp only at *
  generalize ls.length = n at *
  have HS := Lib.hid (fun w' (h : Ext (w.alloc (.cells #[.int .i64 order, .int .i64 status, .int .i64 prior, .int .i64 cur, .int .i64 tax, .slice A n c, .int .i64 paid, .int .i64 refunded, .int .i64 events, .int .i64 refused, .int .i64 stamp, .string who] 77)) w') => (⟨h, (Ext.blk h (BlkN rfl)).cell 0, (Ext.blk h (BlkN rfl)).cell 1, (Ext.blk h (BlkN rfl)).cell 2, (Ext.blk h (BlkN rfl)).cell 3, (Ext.blk h (BlkN rfl)).cell 4, (Ext.blk h (BlkN rfl)).cell 5, (Ext.blk h (BlkN rfl)).cell 6, (Ext.blk h (BlkN rfl)).cell 7, (Ext.blk h (BlkN rfl)).cell 8, (Ext.blk h (BlkN rfl)).cell 9, (Ext.blk h (BlkN rfl)).cell 10, (Ext.blk h (BlkN rfl)).cell 11⟩ : (fun w' : World => Ext (w.alloc (.cells #[.int .i64 order, .int .i64 status, .int .i64 prior, .int .i64 cur, .int .i64 tax, .slice A n c, .int .i64 paid, .int .i64 refunded, .int .i64 events, .int .i64 refused, .int .i64 stamp, .string who] 77)) w' ∧ w'.cell? ⟨w.heap.size, 0, none⟩ = some (.int .i64 order) ∧ w'.cell? ⟨w.heap.size, 1, none⟩ = some (.int .i64 status) ∧ w'.cell? ⟨w.heap.size, 2, none⟩ = some (.int .i64 prior) ∧ w'.cell? ⟨w.heap.size, 3, none⟩ = some (.int .i64 cur) ∧ w'.cell? ⟨w.heap.size, 4, none⟩ = some (.int .i64 tax) ∧ w'.cell? ⟨w.heap.size, 5, none⟩ = some (.slice A n c) ∧ w'.cell? ⟨w.heap.size, 6, none⟩ = some (.int .i64 paid) ∧ w'.cell? ⟨w.heap.size, 7, none⟩ = some (.int .i64 refunded) ∧ w'.cell? ⟨w.heap.size, 8, none⟩ = some (.int .i64 events) ∧ w'.cell? ⟨w.heap.size, 9, none⟩ = some (.int .i64 refused) ∧ w'.cell? ⟨w.heap.size, 10, none⟩ = some (.int .i64 stamp) ∧ w'.cell? ⟨w.heap.size, 11, none⟩ = some (.string who)) w'))
  have hw1 : IntKind.i64.wrap (N + X) = N + X := by rw [IntKind.wrap_i64]; omega
  go_enter Tryz.func151, Tryz.ntmps151
  go_wp2_with fail
  go_region_held3 (fun w' : World => Ext (w.alloc (.cells #[.int .i64 order, .int .i64 status, .int .i64 prior, .int .i64 cur, .int .i64 tax, .slice A n c, .int .i64 paid, .int .i64 refunded, .int .i64 events, .int .i64 refused, .int .i64 stamp, .string who] 77)) w' ∧ w'.cell? ⟨w.heap.size, 0, none⟩ = some (.int .i64 order) ∧ w'.cell? ⟨w.heap.size, 1, none⟩ = some (.int .i64 status) ∧ w'.cell? ⟨w.heap.size, 2, none⟩ = some (.int .i64 prior) ∧ w'.cell? ⟨w.heap.size, 3, none⟩ = some (.int .i64 cur) ∧ w'.cell? ⟨w.heap.size, 4, none⟩ = some (.int .i64 tax) ∧ w'.cell? ⟨w.heap.size, 5, none⟩ = some (.slice A n c) ∧ w'.cell? ⟨w.heap.size, 6, none⟩ = some (.int .i64 paid) ∧ w'.cell? ⟨w.heap.size, 7, none⟩ = some (.int .i64 refunded) ∧ w'.cell? ⟨w.heap.size, 8, none⟩ = some (.int .i64 events) ∧ w'.cell? ⟨w.heap.size, 9, none⟩ = some (.int .i64 refused) ∧ w'.cell? ⟨w.heap.size, 10, none⟩ = some (.int .i64 stamp) ∧ w'.cell? ⟨w.heap.size, 11, none⟩ = some (.string who)) (exact HS.out _ exA) (first
    | (go_at_call 209; (with_reducible refine (Kn.out _ (hr.ext exA)).mono ?_); rintro e w1 ⟨rfl, hx1⟩)
    | (go_at_call 208; (with_reducible refine (Km.out _).mono ?_); rintro e w2 ⟨rfl, hx2⟩; have h3 := HS.out w2 exA; go_split_ands))
  go_wp2_with (go_at_call 209; (with_reducible refine (Kn.out _ (hr.ext exA)).mono ?_); rintro e w3 ⟨rfl, hx3⟩)
  go_ret
  exact ⟨by rw [Hd.out]; rfl, exA⟩
end Go.Proofs.YtjajbbgebblalaaGreatDoor

namespace Go.Proofs.YtjajbbgebblalaaGreatDoor
open Go.RowKit
set_option linter.unusedVariables false
set_option linter.unusedSimpArgs false
def LiR (W : World) (ls : List Ln) (c3 c13 : Value) (wr : World) : Prop :=
  ∃ k : Nat, c3 = .int .i64 (lastOr (-1) (ls.take k)) ∧ c13 = .int .i64 (k : Nat) ∧ k ≤ ls.length ∧ risesB (-1) (ls.take k) = true ∧ Ext W wr
theorem step_ok {x : Int} {l : Ln} : (decide (x < l.item) && lnB l) = decide (¬ (l.item ≤ x) ∧ ¬ (65535 < l.item) ∧ ¬ (l.price < 0) ∧ ¬ (100000000 < l.price) ∧ ¬ (l.qty < 1) ∧ ¬ (100000 < l.qty) ∧ ¬ (l.shipped < 0) ∧ ¬ (l.qty < l.shipped) ∧ 0 ≤ l.item) := by
  rw [Bool.eq_iff_iff]
  simp only [and_t, lnB_iff, decide_eq_true_eq]
  omega
theorem last_ge {ls : List Ln} (h : risesB (-1) ls = true) : -1 ≤ lastOr (-1) ls := by
  unfold lastOr
  cases hl : ls.getLast? with
  | none => simp
  | some l =>
    have hm := List.mem_of_getLast? hl
    have := (rises_mem h l hm).2
    simp
    omega
set_option maxRecDepth 100000 in
set_option maxHeartbeats 4000000 in
theorem rlines_any (s : St) (A : Option Addr) (c : Nat) (w : World) (hr : LsRd w A s.lines) (hn : s.lines.length ≤ 4611686018427387904) :
    Calls Tryz.prog 150 #[.agg (stcells s A c)] w fun e w' => e = .returned (.bool (linedB s.lines)) ∧ Ext w w' := by
  obtain ⟨n, hnn⟩ : ∃ n, n = s.lines.length := ⟨_, rfl⟩
  unfold stcells
  rw [← hnn] at hn ⊢
  have HN := Lib.hid hnn
  clear hnn
  by_cases h16 : 16 < n
  · have Hv : Hid (linedB s.lines = false) := Lib.hid (by unfold linedB; rw [← HN.out]; simp; omega)
    go_enter Tryz.func150, Tryz.ntmps150
    go_wp2_with fail
    go_ret
    exact ⟨by rw [Hv.out]; rfl, exA⟩
  have Hv : Hid (linedB s.lines = risesB (-1) s.lines) := Lib.hid (by unfold linedB; rw [← HN.out]; simp; omega)
  go_enter Tryz.func150, Tryz.ntmps150
  go_wp2_with fail
  go_loopw [3, 13] (fun c3 c13 wr => LiR (w.alloc (.cells #[.int .i64 s.order, .int .i64 s.status, .int .i64 s.prior, .int .i64 s.cur, .int .i64 s.tax, .slice A n c, .int .i64 s.paid, .int .i64 s.refunded, .int .i64 s.events, .int .i64 s.refused, .int .i64 s.stamp, .string s.who] 77)) s.lines c3 c13 wr) (fun _ c13 _ => n - (intOf c13).toNat)
  case atStart => exact ⟨0, rfl, rfl, by omega, rfl, Below.refl _ _⟩
  case round =>
    obtain ⟨k, rfl, rfl, hk, hrs, hx⟩ := hrel
    rw [← HN.out] at hk
    have Hrs := Lib.hid hrs
    have hlg := last_ge hrs
    clear hrs
    by_cases hlt : k < n
    · obtain ⟨b, o, rfl, hc⟩ := ls_at hr (show k < s.lines.length by rw [← HN.out]; exact hlt)
      have hx0 : Ext w wr := Ext.tr (ExtA (Ext.rfl' w)) hx
      have Hc := Lib.hid (range_ext hc hx0)
      have hal := alloc_ln
      have a5 : wr.cell? ⟨w.heap.size, 5, none⟩ = some (.slice (some ⟨b, o, none⟩) n c) := (Ext.blk hx (BlkN rfl)).cell 5
      have Hs1 := Lib.hid (rises_take (ls := s.lines) (k := k) (show k < s.lines.length by rw [← HN.out]; exact hlt))
      have Hlast := Lib.hid (last_take (ls := s.lines) (j := k) (show k < s.lines.length by rw [← HN.out]; exact hlt))
      rw [Hrs.out, Bool.true_and, step_ok] at Hs1
      have Hb := Lib.hid (lined_bad (ls := s.lines) (k := k + 1))
      clear hc
      generalize s.lines[k]'(by rw [← HN.out]; exact hlt) = l at *
      generalize lastOr (-1) (s.lines.take k) = x at *
      obtain ⟨li, lp, lq, lsh⟩ := l
      unfold lncells at Hc hal
      dsimp only at *
      have e0 : wr.cell? ⟨b, o + k * 4, none⟩ = some (.int .i64 li) := Hc.out 0 _ rfl
      have e1 : wr.cell? ⟨b, o + k * 4 + 1, none⟩ = some (.int .i64 lp) := Hc.out 1 _ rfl
      have e2 : wr.cell? ⟨b, o + k * 4 + 2, none⟩ = some (.int .i64 lq) := Hc.out 2 _ rfl
      have e3 : wr.cell? ⟨b, o + k * 4 + 3, none⟩ = some (.int .i64 lsh) := Hc.out 3 _ rfl
      have hkn : (k : Int) < (n : Int) := by omega
      go_wp2_with fail
      all_goals first
        | (go_ret
           exact ⟨by rw [Hb.out (by rw [Hs1.out]; simp only [decide_eq_false_iff_not]; omega)]; rfl, Ext.tr (ExtA (Ext.rfl' w)) exA⟩)
        | (refine And.intro ?_ ?_
           · exact ⟨k + 1, by rw [Hlast.out], by go_num, by have := HN.out; omega, by rw [Hs1.out]; simp only [decide_eq_true_eq]; omega, exA⟩
           · simp [intOf]; omega)
    · obtain rfl : k = n := by omega
      have htk : s.lines.take k = s.lines := List.take_of_length_le (by have := HN.out; omega)
      rw [htk] at Hrs
      go_wp2_with fail
      go_ret
      exact ⟨by rw [Hv.out, Hrs.out]; rfl, Ext.tr (ExtA (Ext.rfl' w)) exA⟩
end Go.Proofs.YtjajbbgebblalaaGreatDoor

namespace Go.Proofs.YtjajbbgebblalaaGreatDoor
open Go.RowKit
set_option linter.unusedVariables false
set_option linter.unusedSimpArgs false
def lowAt (t : Nat) : Int := [0, 1, 1, 0, 0, 0, 0, 0, 0, 0, 0].getD t 0
def highAt (t : Nat) : Int := [0, 10, 1099511627776, 65535, 10000, 100000000, 3, 5000, 0, 1099511627776, 0].getD t 0
def numAt (e : Ev) (t : Nat) : Int := [0, e.kind, e.order, e.item, e.qty, e.price, e.cur, e.tax, 0, e.stamp, 0].getD t 0
def tagOk (h : Nat) (e : Ev) (t : Nat) : Prop := ¬ (numAt e t < lowAt t) ∧ ¬ (highAt t < numAt e t) ∧ (t ≤ h ∨ numAt e t = 0)
theorem low_cell {t : Nat} (h : t < 11) : (#[.int .i64 0, .int .i64 1, .int .i64 1, .int .i64 0, .int .i64 0, .int .i64 0, .int .i64 0, .int .i64 0, .int .i64 0, .int .i64 0, .int .i64 0] : Array Value)[t]? = some (.int .i64 (lowAt t)) := (match t, h with | 0, _ => rfl | 1, _ => rfl | 2, _ => rfl | 3, _ => rfl | 4, _ => rfl | 5, _ => rfl | 6, _ => rfl | 7, _ => rfl | 8, _ => rfl | 9, _ => rfl | 10, _ => rfl)
theorem high_cell {t : Nat} (h : t < 11) : (#[.int .i64 0, .int .i64 10, .int .i64 1099511627776, .int .i64 65535, .int .i64 10000, .int .i64 100000000, .int .i64 3, .int .i64 5000, .int .i64 0, .int .i64 1099511627776, .int .i64 0] : Array Value)[t]? = some (.int .i64 (highAt t)) := (match t, h with | 0, _ => rfl | 1, _ => rfl | 2, _ => rfl | 3, _ => rfl | 4, _ => rfl | 5, _ => rfl | 6, _ => rfl | 7, _ => rfl | 8, _ => rfl | 9, _ => rfl | 10, _ => rfl)
theorem num_cell (e : Ev) {t : Nat} (h : t < 11) : (#[.int .i64 0, .int .i64 e.kind, .int .i64 e.order, .int .i64 e.item, .int .i64 e.qty, .int .i64 e.price, .int .i64 e.cur, .int .i64 e.tax, .int .i64 0, .int .i64 e.stamp, .int .i64 0] : Array Value)[t]? = some (.int .i64 (numAt e t)) := (match t, h with | 0, _ => rfl | 1, _ => rfl | 2, _ => rfl | 3, _ => rfl | 4, _ => rfl | 5, _ => rfl | 6, _ => rfl | 7, _ => rfl | 8, _ => rfl | 9, _ => rfl | 10, _ => rfl)
/-- What the reference's Check asks of a version that has h tags and whose last kind is k. -/
structure ROk (h : Nat) (k : Int) (bare : Bool) (e : Ev) : Prop where
  kind : 1 ≤ e.kind ∧ e.kind ≤ k
  who : e.who.size ≤ 16
  note : e.note.size ≤ 120
  tags : ∀ t, 1 ≤ t → t ≤ 10 → tagOk h e t
  bare : bare = true → e.note.size = 0
  plain : plainB e.who = true
def RPost (w : World) (h : Nat) (k : Int) (bare : Bool) (e : Ev) (e' : Ending) (w' : World) : Prop := ∃ r : Int, e' = .returned (.int .i64 r) ∧ (r = 0 ↔ ROk h k bare e) ∧ Ext w w'
theorem rok5 {e : Ev} : ROk 10 10 false e ↔ check5 e = 0 := by
  rw [event_iff]
  constructor
  · intro h
    have t2 := h.tags 2 (by omega) (by omega)
    have t3 := h.tags 3 (by omega) (by omega)
    have t4 := h.tags 4 (by omega) (by omega)
    have t5 := h.tags 5 (by omega) (by omega)
    have t6 := h.tags 6 (by omega) (by omega)
    have t7 := h.tags 7 (by omega) (by omega)
    have t9 := h.tags 9 (by omega) (by omega)
    simp [tagOk, numAt, lowAt, highAt] at t2 t3 t4 t5 t6 t7 t9
    exact ⟨h.kind, by omega, by omega, by omega, by omega, by omega, by omega, by simp only [namedB, and_t, decide_eq_true_eq]; exact ⟨h.who, h.plain⟩, by omega, h.note⟩
  · intro h
    obtain ⟨h1, h2, h3, h4, h5, h6, h7, h8, h9, h10⟩ := h
    simp only [namedB, and_t, decide_eq_true_eq] at h8
    refine ⟨h1, h8.1, h10, fun t a b => ?_, (fun hc => by cases hc), h8.2⟩
    obtain rfl | rfl | rfl | rfl | rfl | rfl | rfl | rfl | rfl | rfl : t = 1 ∨ t = 2 ∨ t = 3 ∨ t = 4 ∨ t = 5 ∨ t = 6 ∨ t = 7 ∨ t = 8 ∨ t = 9 ∨ t = 10 := by omega
    all_goals (simp [tagOk, numAt, lowAt, highAt]; try omega)
theorem rok4 {who : ByteArray} : ROk 8 9 true ⟨1, 1, 0, 0, 0, 0, 0, who, 0, ⟨#[]⟩⟩ ↔ namedB who = true := by
  simp only [namedB, and_t, decide_eq_true_eq]
  constructor
  · intro h
    exact ⟨h.who, h.plain⟩
  · intro h
    refine ⟨⟨by show (1 : Int) ≤ 1; omega, by show (1 : Int) ≤ 9; omega⟩, h.1, Nat.zero_le _, fun t a b => ?_, fun _ => rfl, h.2⟩
    obtain rfl | rfl | rfl | rfl | rfl | rfl | rfl | rfl | rfl | rfl : t = 1 ∨ t = 2 ∨ t = 3 ∨ t = 4 ∨ t = 5 ∨ t = 6 ∨ t = 7 ∨ t = 8 ∨ t = 9 ∨ t = 10 := by omega
    all_goals simp [tagOk, numAt, lowAt, highAt]
theorem nums_any (e : Ev) (w : World) : Calls Tryz.prog 206 #[.agg (evcells e)] w fun e' w' => ∃ g, e' = .returned (.slice (some ⟨g, 0, none⟩) 11 11) ∧ Ext w w' ∧ Blk w' g 3 #[.int .i64 0, .int .i64 e.kind, .int .i64 e.order, .int .i64 e.item, .int .i64 e.qty, .int .i64 e.price, .int .i64 e.cur, .int .i64 e.tax, .int .i64 0, .int .i64 e.stamp, .int .i64 0] := by
  unfold evcells
  go_enter Tryz.func206, Tryz.ntmps206
  go_wp2_with fail
  go_ret
  exact ⟨_, rfl, exA, BlkN (by simp)⟩
theorem last4 (w : World) : Calls Tryz.prog 205 #[.int .i64 4] w fun e' w' => e' = .returned (.int .i64 9) ∧ Ext w w' := by
  go_enter Tryz.func205, Tryz.ntmps205
  go_wp2_with fail
  go_ret
  exact ⟨rfl, exA⟩
theorem has4 (w : World) : Calls Tryz.prog 207 #[.int .i64 4] w fun e' w' => e' = .returned (.int .i64 8) ∧ Ext w w' := by
  go_enter Tryz.func207, Tryz.ntmps207
  go_wp2_with fail
  go_ret
  exact ⟨rfl, exA⟩
theorem last5 (w : World) : Calls Tryz.prog 205 #[.int .i64 5] w fun e' w' => e' = .returned (.int .i64 10) ∧ Ext w w' := by
  go_enter Tryz.func205, Tryz.ntmps205
  go_wp2_with fail
  go_ret
  exact ⟨rfl, exA⟩
theorem has5 (w : World) : Calls Tryz.prog 207 #[.int .i64 5] w fun e' w' => e' = .returned (.int .i64 10) ∧ Ext w w' := by
  go_enter Tryz.func207, Tryz.ntmps207
  go_wp2_with fail
  go_ret
  exact ⟨rfl, exA⟩
def CkR (W : World) (h : Nat) (e : Ev) (c8 : Value) (wr : World) : Prop := ∃ t : Nat, c8 = .int .i64 (t : Nat) ∧ 1 ≤ t ∧ t ≤ 11 ∧ (∀ j, 1 ≤ j → j < t → tagOk h e j) ∧ Ext W wr
end Go.Proofs.YtjajbbgebblalaaGreatDoor

namespace Go.Proofs.YtjajbbgebblalaaGreatDoor
open Go.RowKit
set_option linter.unusedVariables false
set_option linter.unusedSimpArgs false
set_option maxRecDepth 100000 in
set_option maxHeartbeats 4000000 in
theorem rcheck4 (e : Ev) (w : World) (hw : e.who.size ≤ 4611686018427387904) (hw2 : e.note.size ≤ 4611686018427387904) :
    Calls Tryz.prog 149 #[.int .i64 4, .agg (evcells e)] w (RPost w 8 9 true e) := by
  have KL := Lib.hid last4
  have KH := Lib.hid has4
  have KN := Lib.hid fun W => nums_any e W
  have HOK : Hid (ROk 8 9 true e ↔ (1 ≤ e.kind ∧ e.kind ≤ 9) ∧ e.who.size ≤ 16 ∧ e.note.size ≤ 120 ∧ (∀ t, 1 ≤ t → t ≤ 10 → tagOk 8 e t) ∧ (true = true → e.note.size = 0) ∧ plainB e.who = true) := Lib.hid ⟨fun ⟨a, b, c, d, f, g⟩ => ⟨a, b, c, d, f, g⟩, fun ⟨a, b, c, d, f, g⟩ => ⟨a, b, c, d, f, g⟩⟩
  have HNC := Lib.hid fun t h => num_cell e (t := t) h
  unfold RPost
  generalize ROk 8 9 true e = OK at *
  obtain ⟨E, hE⟩ : ∃ E, E = e := ⟨_, rfl⟩
  have HT : Hid (∀ t, tagOk 8 E t ↔ ¬ (numAt E t < lowAt t) ∧ ¬ (highAt t < numAt E t) ∧ (t ≤ 8 ∨ numAt E t = 0)) := Lib.hid fun t => Iff.rfl
  rw [← hE] at HNC HOK
  have HE : Hid (E.kind = e.kind ∧ E.who = e.who ∧ E.note = e.note) := Lib.hid ⟨by rw [hE], by rw [hE], by rw [hE]⟩
  rw [HE.out.1, HE.out.2.1, HE.out.2.2] at HOK
  have HNE : Hid (∀ W g, Blk W g 3 #[.int .i64 0, .int .i64 e.kind, .int .i64 e.order, .int .i64 e.item, .int .i64 e.qty, .int .i64 e.price, .int .i64 e.cur, .int .i64 e.tax, .int .i64 0, .int .i64 e.stamp, .int .i64 0] → ∀ t, t < 11 → W.cell? ⟨g, t, none⟩ = some (.int .i64 (numAt E t))) := Lib.hid fun W g hb t ht => by rw [hb.cell]; rw [← hE]; exact HNC.out t ht
  clear hE HNC HE
  obtain ⟨ek, eo, ei, eq, ep, ec, et, ew, es, en⟩ := e
  unfold evcells at *
  dsimp only at *
  have HS := Lib.hid (fun w' (h : Ext (w.alloc (.cells #[.int .i64 ek, .int .i64 eo, .int .i64 ei, .int .i64 eq, .int .i64 ep, .int .i64 ec, .int .i64 et, .string ew, .int .i64 es, .string en] 165)) w') => (⟨h, (Ext.blk h (BlkN rfl)).cell 0, (Ext.blk h (BlkN rfl)).cell 1, (Ext.blk h (BlkN rfl)).cell 2, (Ext.blk h (BlkN rfl)).cell 3, (Ext.blk h (BlkN rfl)).cell 4, (Ext.blk h (BlkN rfl)).cell 5, (Ext.blk h (BlkN rfl)).cell 6, (Ext.blk h (BlkN rfl)).cell 7, (Ext.blk h (BlkN rfl)).cell 8, (Ext.blk h (BlkN rfl)).cell 9⟩ : (fun w' : World => Ext (w.alloc (.cells #[.int .i64 ek, .int .i64 eo, .int .i64 ei, .int .i64 eq, .int .i64 ep, .int .i64 ec, .int .i64 et, .string ew, .int .i64 es, .string en] 165)) w' ∧ w'.cell? ⟨w.heap.size, 0, none⟩ = some (.int .i64 ek) ∧ w'.cell? ⟨w.heap.size, 1, none⟩ = some (.int .i64 eo) ∧ w'.cell? ⟨w.heap.size, 2, none⟩ = some (.int .i64 ei) ∧ w'.cell? ⟨w.heap.size, 3, none⟩ = some (.int .i64 eq) ∧ w'.cell? ⟨w.heap.size, 4, none⟩ = some (.int .i64 ep) ∧ w'.cell? ⟨w.heap.size, 5, none⟩ = some (.int .i64 ec) ∧ w'.cell? ⟨w.heap.size, 6, none⟩ = some (.int .i64 et) ∧ w'.cell? ⟨w.heap.size, 7, none⟩ = some (.string ew) ∧ w'.cell? ⟨w.heap.size, 8, none⟩ = some (.int .i64 es) ∧ w'.cell? ⟨w.heap.size, 9, none⟩ = some (.string en)) w'))
  by_cases hk1 : ek < 1
  · go_enter Tryz.func149, Tryz.ntmps149
    go_wp2_with fail
    all_goals try (first | (go_region_with (fail)) | fail)
    all_goals
      go_wp2_with fail
      go_ret
      exact ⟨31, rfl, ⟨fun h => by omega, fun h => by have := (HOK.out.1 h).1; omega⟩, exA⟩
  have td1 : decide (ek < 1) = false := by simp; omega
  by_cases hk2 : 9 < ek
  · have td2 : decide ((9 : Int) < ek) = true := by simp; omega
    go_enter Tryz.func149, Tryz.ntmps149
    go_wp2_with fail
    go_region_held3 (fun w' : World => Ext (w.alloc (.cells #[.int .i64 ek, .int .i64 eo, .int .i64 ei, .int .i64 eq, .int .i64 ep, .int .i64 ec, .int .i64 et, .string ew, .int .i64 es, .string en] 165)) w' ∧ w'.cell? ⟨w.heap.size, 0, none⟩ = some (.int .i64 ek) ∧ w'.cell? ⟨w.heap.size, 1, none⟩ = some (.int .i64 eo) ∧ w'.cell? ⟨w.heap.size, 2, none⟩ = some (.int .i64 ei) ∧ w'.cell? ⟨w.heap.size, 3, none⟩ = some (.int .i64 eq) ∧ w'.cell? ⟨w.heap.size, 4, none⟩ = some (.int .i64 ep) ∧ w'.cell? ⟨w.heap.size, 5, none⟩ = some (.int .i64 ec) ∧ w'.cell? ⟨w.heap.size, 6, none⟩ = some (.int .i64 et) ∧ w'.cell? ⟨w.heap.size, 7, none⟩ = some (.string ew) ∧ w'.cell? ⟨w.heap.size, 8, none⟩ = some (.int .i64 es) ∧ w'.cell? ⟨w.heap.size, 9, none⟩ = some (.string en)) (exact HS.out _ exA) ((go_at_call 205; (with_reducible refine (KL.out _).mono ?_); rintro e w1 ⟨rfl, hx1⟩))
    go_wp2_with fail
    go_ret
    exact ⟨31, rfl, ⟨fun h => by omega, fun h => by have := (HOK.out.1 h).1; omega⟩, exA⟩
  have td2 : decide ((9 : Int) < ek) = false := by simp; omega
  by_cases hs : 16 < ew.size ∨ 120 < en.size
  · go_enter Tryz.func149, Tryz.ntmps149
    go_wp2_with fail
    go_region_held3 (fun w' : World => Ext (w.alloc (.cells #[.int .i64 ek, .int .i64 eo, .int .i64 ei, .int .i64 eq, .int .i64 ep, .int .i64 ec, .int .i64 et, .string ew, .int .i64 es, .string en] 165)) w' ∧ w'.cell? ⟨w.heap.size, 0, none⟩ = some (.int .i64 ek) ∧ w'.cell? ⟨w.heap.size, 1, none⟩ = some (.int .i64 eo) ∧ w'.cell? ⟨w.heap.size, 2, none⟩ = some (.int .i64 ei) ∧ w'.cell? ⟨w.heap.size, 3, none⟩ = some (.int .i64 eq) ∧ w'.cell? ⟨w.heap.size, 4, none⟩ = some (.int .i64 ep) ∧ w'.cell? ⟨w.heap.size, 5, none⟩ = some (.int .i64 ec) ∧ w'.cell? ⟨w.heap.size, 6, none⟩ = some (.int .i64 et) ∧ w'.cell? ⟨w.heap.size, 7, none⟩ = some (.string ew) ∧ w'.cell? ⟨w.heap.size, 8, none⟩ = some (.int .i64 es) ∧ w'.cell? ⟨w.heap.size, 9, none⟩ = some (.string en)) (exact HS.out _ exA) ((go_at_call 205; (with_reducible refine (KL.out _).mono ?_); rintro e w1 ⟨rfl, hx1⟩; have h3 := HS.out w1 exA; go_split_ands))
    by_cases hs1 : 16 < ew.size
    · go_wp2_with fail
      go_ret
      exact ⟨24, rfl, ⟨fun h => by omega, fun h => by have := (HOK.out.1 h).2; omega⟩, exA⟩
    · have hs2 : 120 < en.size := by omega
      go_wp2_with fail
      go_ret
      exact ⟨24, rfl, ⟨fun h => by omega, fun h => by have := (HOK.out.1 h).2; omega⟩, exA⟩
  have hs1 : ¬ 16 < ew.size := by omega
  have hs2 : ¬ 120 < en.size := by omega
  clear hs
  go_enter Tryz.func149, Tryz.ntmps149
  go_wp2_with fail
  go_region_held3 (fun w' : World => Ext (w.alloc (.cells #[.int .i64 ek, .int .i64 eo, .int .i64 ei, .int .i64 eq, .int .i64 ep, .int .i64 ec, .int .i64 et, .string ew, .int .i64 es, .string en] 165)) w' ∧ w'.cell? ⟨w.heap.size, 0, none⟩ = some (.int .i64 ek) ∧ w'.cell? ⟨w.heap.size, 1, none⟩ = some (.int .i64 eo) ∧ w'.cell? ⟨w.heap.size, 2, none⟩ = some (.int .i64 ei) ∧ w'.cell? ⟨w.heap.size, 3, none⟩ = some (.int .i64 eq) ∧ w'.cell? ⟨w.heap.size, 4, none⟩ = some (.int .i64 ep) ∧ w'.cell? ⟨w.heap.size, 5, none⟩ = some (.int .i64 ec) ∧ w'.cell? ⟨w.heap.size, 6, none⟩ = some (.int .i64 et) ∧ w'.cell? ⟨w.heap.size, 7, none⟩ = some (.string ew) ∧ w'.cell? ⟨w.heap.size, 8, none⟩ = some (.int .i64 es) ∧ w'.cell? ⟨w.heap.size, 9, none⟩ = some (.string en)) (exact HS.out _ exA) ((go_at_call 205; (with_reducible refine (KL.out _).mono ?_); rintro e w1 ⟨rfl, hx1⟩; have h3 := HS.out w1 exA; go_split_ands))
  have hE1 : Blk w1 w.heap.size 165 #[.int .i64 ek, .int .i64 eo, .int .i64 ei, .int .i64 eq, .int .i64 ep, .int .i64 ec, .int .i64 et, .string ew, .int .i64 es, .string en] := BlkE (BlkD (BlkN rfl)) hx1
  have hEA : ∀ o1 o2 i v, w1.cell? ⟨w.heap.size, i, none⟩ = some v → ((w1.alloc o1).alloc o2).cell? ⟨w.heap.size, i, none⟩ = some v := fun o1 o2 i v h => Ext.cell (ExtA (ExtA (Ext.rfl' w1))) h
  go_wp2_with (first
    | (go_at_call 206; (with_reducible refine (KN.out _).mono ?_); rintro e w5 ⟨gn, rfl, hx5, bn⟩))
  have bl : Blk w5 w1.heap.size 3 #[.int .i64 0, .int .i64 1, .int .i64 1, .int .i64 0, .int .i64 0, .int .i64 0, .int .i64 0, .int .i64 0, .int .i64 0, .int .i64 0, .int .i64 0] := bkV
  have bh : Blk w5 (w1.heap.size + 1) 3 #[.int .i64 0, .int .i64 10, .int .i64 1099511627776, .int .i64 65535, .int .i64 10000, .int .i64 100000000, .int .i64 3, .int .i64 5000, .int .i64 0, .int .i64 1099511627776, .int .i64 0] := bkV
  have hE5 : Blk w5 w.heap.size 165 #[.int .i64 ek, .int .i64 eo, .int .i64 ei, .int .i64 eq, .int .i64 ep, .int .i64 ec, .int .i64 et, .string ew, .int .i64 es, .string en] := bkV
  have hXw5 : Ext w w5 := exA
  clear hx1 hx5 hEA hE1 hw2 KL KN HS
  go_split_ands
  generalize w1.heap.size + 1 = gh at *
  generalize w1.heap.size = gl at *
  go_loopw [8] (fun c8 wr => CkR w5 8 E c8 wr) (fun c8 _ => 11 - (intOf c8).toNat)
  case atStart => exact ⟨1, rfl, by omega, by omega, fun j a b => by omega, Below.refl _ _⟩
  case round =>
    obtain ⟨t, rfl, ht1, ht2, hok, hx⟩ := hrel
    by_cases hlt : t < 11
    · have cn := HNE.out wr gn (BlkE bn hx) t hlt
      have cl : wr.cell? ⟨gl, t, none⟩ = some (.int .i64 (lowAt t)) := ((BlkE bl hx).cell t).trans (low_cell hlt)
      have ch : wr.cell? ⟨gh, t, none⟩ = some (.int .i64 (highAt t)) := ((BlkE bh hx).cell t).trans (high_cell hlt)
      have Ht := Lib.hid (HT.out t)
      have Hok := Lib.hid hok
      clear hok
      generalize numAt E t = x at *
      generalize lowAt t = lo at *
      generalize highAt t = hi at *
      have hi0 : (0 : Int) ≤ (t : Int) := by omega
      have hi1 : (t : Int) < 11 := by omega
      have hi2 : (t : Int) ≤ 10 := by omega
      have mixed : Tryz.prog.follows Departure.mixedOrders = true := by kernel_rfl
      by_cases g0 : 8 < t
      · have tg0 : decide ((8 : Int) < (t : Int)) = true := by simp; omega
        by_cases z : x = 0
        · have tz : (x != 0) = false := by simp; exact z
          have Z := Lib.hid z
          clear z
          by_cases g1 : x < lo
          · have tg1 : decide (x < lo) = true := by simpa using g1
            go_wp2_with (go_at_call 207; (with_reducible refine (KH.out _).mono ?_); rintro e w6 ⟨rfl, hx6⟩; have cn6 := hx6.cell cn; have cl6 := hx6.cell cl; have ch6 := hx6.cell ch)
            all_goals try (first | (go_quiet (fail)) | (go_region_with (fail)))
            all_goals (go_wp2_with fail)
            all_goals first
              | (go_ret
                 exact ⟨32, rfl, ⟨fun h => by omega, fun h => by have := Ht.out.1 ((HOK.out.1 h).2.2.2.1 t ht1 (by omega)); first | omega | (have hz := Z.out; omega)⟩, exA⟩)
              | (refine And.intro ?_ ?_
                 · exact ⟨t + 1, by go_num, by omega, by omega, fun j a b => by
                     rcases Nat.lt_or_ge j t with hj | hj
                     · exact Hok.out j a hj
                     · obtain rfl : j = t := by omega
                       exact Ht.out.2 (by first | omega | (have hz := Z.out; omega)), exA⟩
                 · simp [intOf]; omega)
          have tg1 : decide (x < lo) = false := by simp; omega
          by_cases g2 : hi < x
          · have tg2 : decide (hi < x) = true := by simpa using g2
            go_wp2_with (go_at_call 207; (with_reducible refine (KH.out _).mono ?_); rintro e w6 ⟨rfl, hx6⟩; have cn6 := hx6.cell cn; have cl6 := hx6.cell cl; have ch6 := hx6.cell ch)
            all_goals try (first | (go_quiet (fail)) | (go_region_with (fail)))
            all_goals (go_wp2_with fail)
            all_goals first
              | (go_ret
                 exact ⟨32, rfl, ⟨fun h => by omega, fun h => by have := Ht.out.1 ((HOK.out.1 h).2.2.2.1 t ht1 (by omega)); first | omega | (have hz := Z.out; omega)⟩, exA⟩)
              | (refine And.intro ?_ ?_
                 · exact ⟨t + 1, by go_num, by omega, by omega, fun j a b => by
                     rcases Nat.lt_or_ge j t with hj | hj
                     · exact Hok.out j a hj
                     · obtain rfl : j = t := by omega
                       exact Ht.out.2 (by first | omega | (have hz := Z.out; omega)), exA⟩
                 · simp [intOf]; omega)
          have tg2 : decide (hi < x) = false := by simp; omega
          go_wp2_with (go_at_call 207; (with_reducible refine (KH.out _).mono ?_); rintro e w6 ⟨rfl, hx6⟩; have cn6 := hx6.cell cn; have cl6 := hx6.cell cl; have ch6 := hx6.cell ch)
          all_goals try (first | (go_quiet (fail)) | (go_region_with (fail)))
          all_goals (go_wp2_with fail)
          all_goals first
            | (go_ret
               exact ⟨32, rfl, ⟨fun h => by omega, fun h => by have := Ht.out.1 ((HOK.out.1 h).2.2.2.1 t ht1 (by omega)); first | omega | (have hz := Z.out; omega)⟩, exA⟩)
            | (refine And.intro ?_ ?_
               · exact ⟨t + 1, by go_num, by omega, by omega, fun j a b => by
                   rcases Nat.lt_or_ge j t with hj | hj
                   · exact Hok.out j a hj
                   · obtain rfl : j = t := by omega
                     exact Ht.out.2 (by first | omega | (have hz := Z.out; omega)), exA⟩
               · simp [intOf]; omega)
        · have tz : (x != 0) = true := by simp; exact z
          have Z := Lib.hid z
          clear z
          go_wp2_with (go_at_call 207; (with_reducible refine (KH.out _).mono ?_); rintro e w6 ⟨rfl, hx6⟩; have cn6 := hx6.cell cn; have cl6 := hx6.cell cl; have ch6 := hx6.cell ch)
          all_goals try (first | (go_quiet (fail)) | (go_region_with (fail)))
          all_goals (go_wp2_with fail)
          all_goals first
            | (go_ret
               exact ⟨32, rfl, ⟨fun h => by omega, fun h => by have := Ht.out.1 ((HOK.out.1 h).2.2.2.1 t ht1 (by omega)); first | omega | (have hz := Z.out; omega)⟩, exA⟩)
            | (refine And.intro ?_ ?_
               · exact ⟨t + 1, by go_num, by omega, by omega, fun j a b => by
                   rcases Nat.lt_or_ge j t with hj | hj
                   · exact Hok.out j a hj
                   · obtain rfl : j = t := by omega
                     exact Ht.out.2 (by first | omega | (have hz := Z.out; omega)), exA⟩
               · simp [intOf]; omega)
      have tg0 : decide ((8 : Int) < (t : Int)) = false := by simp; omega
      by_cases g1 : x < lo
      · have tg1 : decide (x < lo) = true := by simpa using g1
        go_wp2_with (go_at_call 207; (with_reducible refine (KH.out _).mono ?_); rintro e w6 ⟨rfl, hx6⟩; have cn6 := hx6.cell cn; have cl6 := hx6.cell cl; have ch6 := hx6.cell ch)
        all_goals try (first | (go_quiet (fail)) | (go_region_with (fail)))
        all_goals (go_wp2_with fail)
        all_goals first
          | (go_ret
             exact ⟨32, rfl, ⟨fun h => by omega, fun h => by have := Ht.out.1 ((HOK.out.1 h).2.2.2.1 t ht1 (by omega)); first | omega | (have hz := Z.out; omega)⟩, exA⟩)
          | (refine And.intro ?_ ?_
             · exact ⟨t + 1, by go_num, by omega, by omega, fun j a b => by
                 rcases Nat.lt_or_ge j t with hj | hj
                 · exact Hok.out j a hj
                 · obtain rfl : j = t := by omega
                   exact Ht.out.2 (by first | omega | (have hz := Z.out; omega)), exA⟩
             · simp [intOf]; omega)
      have tg1 : decide (x < lo) = false := by simp; omega
      by_cases g2 : hi < x
      · have tg2 : decide (hi < x) = true := by simpa using g2
        go_wp2_with (go_at_call 207; (with_reducible refine (KH.out _).mono ?_); rintro e w6 ⟨rfl, hx6⟩; have cn6 := hx6.cell cn; have cl6 := hx6.cell cl; have ch6 := hx6.cell ch)
        all_goals try (first | (go_quiet (fail)) | (go_region_with (fail)))
        all_goals (go_wp2_with fail)
        all_goals first
          | (go_ret
             exact ⟨32, rfl, ⟨fun h => by omega, fun h => by have := Ht.out.1 ((HOK.out.1 h).2.2.2.1 t ht1 (by omega)); first | omega | (have hz := Z.out; omega)⟩, exA⟩)
          | (refine And.intro ?_ ?_
             · exact ⟨t + 1, by go_num, by omega, by omega, fun j a b => by
                 rcases Nat.lt_or_ge j t with hj | hj
                 · exact Hok.out j a hj
                 · obtain rfl : j = t := by omega
                   exact Ht.out.2 (by first | omega | (have hz := Z.out; omega)), exA⟩
             · simp [intOf]; omega)
      have tg2 : decide (hi < x) = false := by simp; omega
      go_wp2_with (go_at_call 207; (with_reducible refine (KH.out _).mono ?_); rintro e w6 ⟨rfl, hx6⟩; have cn6 := hx6.cell cn; have cl6 := hx6.cell cl; have ch6 := hx6.cell ch)
      all_goals try (first | (go_quiet (fail)) | (go_region_with (fail)))
      all_goals (go_wp2_with fail)
      all_goals first
        | (go_ret
           exact ⟨32, rfl, ⟨fun h => by omega, fun h => by have := Ht.out.1 ((HOK.out.1 h).2.2.2.1 t ht1 (by omega)); first | omega | (have hz := Z.out; omega)⟩, exA⟩)
        | (refine And.intro ?_ ?_
           · exact ⟨t + 1, by go_num, by omega, by omega, fun j a b => by
               rcases Nat.lt_or_ge j t with hj | hj
               · exact Hok.out j a hj
               · obtain rfl : j = t := by omega
                 exact Ht.out.2 (by first | omega | (have hz := Z.out; omega)), exA⟩
           · simp [intOf]; omega)
    · obtain rfl : t = 11 := by omega
      rw [show ((11 : Nat) : Int) = 11 from rfl]
      have Hok := Lib.hid hok
      have e7 : wr.cell? ⟨w.heap.size, 7, none⟩ = some (.string ew) := (BlkE hE5 hx).cell 7
      have e9 : wr.cell? ⟨w.heap.size, 9, none⟩ = some (.string en) := (BlkE hE5 hx).cell 9
      clear hok
      by_cases hz : en.size = 0
      rotate_left
      · have hze : en.toList.isEmpty = false := by rw [who_empty]; simpa using hz
        go_wp2_with fail
        go_ret
        exact ⟨32, rfl, ⟨fun h => by omega, fun h => absurd ((HOK.out.1 h).2.2.2.2.1 (by trivial)) hz⟩, exA⟩
      have hze : en.toList.isEmpty = true := by rw [who_empty]; simpa using hz
      have Hz := Lib.hid hz
      clear hz
      go_wp2_with fail
      go_loopw [9] (fun c9 wr2 => plainR w5 ew c9 wr2) (fun c9 _ => ew.size - (intOf c9).toNat)
      case atStart => exact ⟨0, rfl, by omega, rfl, exA⟩
      case round =>
        obtain ⟨k, rfl, hk, hp, hxp⟩ := hrel
        have Hp := Lib.hid hp
        have e7' : wr.cell? ⟨w.heap.size, 7, none⟩ = some (.string ew) := (BlkE hE5 hxp).cell 7
        clear hp
        by_cases hlt : k < ew.size
        · have Hi := Lib.hid (pcB_iff ew[k])
          go_wp2_with fail
          all_goals try (go_quiet (fail))
          all_goals (go_wp2_with fail)
          all_goals first
            | (refine And.intro ?_ ?_
               · exact ⟨k + 1, by go_num, by omega, plain_next hlt Hp.out (Hi.out.2 (by simp at *; omega)), exA⟩
               · simp [intOf]; omega)
            | (go_roundw
               case rel => exact ⟨k + 1, by go_num, by omega, plain_next hlt Hp.out (Hi.out.2 (by simp at *; omega)), exA⟩
               case measure => simp [intOf]; omega)
            | (go_ret
               have hb : pcB ew[k] = false := by
                 cases hb : pcB ew[k] with
                 | false => rfl
                 | true => exfalso; have := Hi.out.1 hb; simp at *; omega
               exact ⟨32, rfl, ⟨fun h => by omega, fun h => by have h2 := (HOK.out.1 h).2.2.2.2.2; rw [plain_bad hlt hb] at h2; cases h2⟩, exA⟩)
        · have hk2 : k = ew.size := by omega
          have Hv : Hid (plainB ew = true) := Lib.hid (by
            have h := Hp.out
            rw [List.take_of_length_le (by simp; have : ew.data.size = ew.size := rfl; omega)] at h
            exact h)
          clear Hp
          subst hk2
          go_wp2_with fail
          go_ret
          exact ⟨0, rfl, ⟨fun _ => HOK.out.2 ⟨by omega, by omega, by omega, fun t a b => Hok.out t a (by omega), (fun _ => Hz.out), Hv.out⟩, fun _ => rfl⟩, exA⟩
end Go.Proofs.YtjajbbgebblalaaGreatDoor

namespace Go.Proofs.YtjajbbgebblalaaGreatDoor
open Go.RowKit
set_option linter.unusedVariables false
set_option linter.unusedSimpArgs false
theorem who_nil (s : ByteArray) : s.toList = [] ↔ s = ByteArray.empty := by
  rw [← List.isEmpty_iff, who_empty]
  simp
set_option maxRecDepth 100000 in
set_option maxHeartbeats 4000000 in
theorem rvalid_any (s : St) (A : Option Addr) (c : Nat) (w : World) (hr : LsRd w A s.lines) (hn : s.lines.length ≤ 4611686018427387904) (hw : s.who.size ≤ 4611686018427387904) :
    Calls Tryz.prog 114 #[.agg (stcells s A c)] w fun e w' => e = .returned (.bool (validB s)) ∧ Ext w w' := by
  have KC : Hid (∀ W, Calls Tryz.prog 149 #[.int .i64 4, .agg (evcells ⟨1, 1, 0, 0, 0, 0, 0, s.who, 0, ⟨#[]⟩⟩)] W fun e' w' => ∃ r : Int, e' = .returned (.int .i64 r) ∧ (r = 0 ↔ namedB s.who = true) ∧ Ext W w') := Lib.hid fun W => by
    refine (rcheck4 ⟨1, 1, 0, 0, 0, 0, 0, s.who, 0, ⟨#[]⟩⟩ W hw (Nat.zero_le _)).mono ?_
    rintro e' w' ⟨r, he, hr, hx⟩
    exact ⟨r, he, hr.trans rok4, hx⟩
  have KL := Lib.hid fun W (h : LsRd W A s.lines) => rlines_any s A c W h hn
  have KD : Hid (linedB s.lines = true → 0 ≤ s.tax ∧ s.tax ≤ 5000 → ∀ W, LsRd W A s.lines → Calls Tryz.prog 151 #[.agg (stcells s A c)] W fun e w' => e = .returned (.int .i64 (due s)) ∧ Ext W w') := Lib.hid fun hb ht W h => by
    simp only [linedB, and_t, decide_eq_true_eq] at hb
    exact rdue_any s A c W h (fun l hl => (rises_mem hb.2 l hl).1) hb.1 ht
  have KS := Lib.hid fun W => stands_any s A c W
  have KU : Hid (linedB s.lines = true → ∀ W, LsRd W A s.lines → Calls Tryz.prog 153 #[.agg (stcells s A c)] W fun e w' => e = .returned (.bool (noneB s.lines)) ∧ Ext W w') := Lib.hid fun hb W h => by
    simp only [linedB, and_t, decide_eq_true_eq] at hb
    exact untouched_any s A c W h (fun l hl => (lnB_iff.1 (rises_mem hb.2 l hl).1).2.2.2.1) hn
  have KW : Hid (linedB s.lines = true → ∀ W, LsRd W A s.lines → Calls Tryz.prog 154 #[.agg (stcells s A c)] W fun e w' => e = .returned (.bool (allB s.lines)) ∧ Ext W w') := Lib.hid fun hb W h => by
    simp only [linedB, and_t, decide_eq_true_eq] at hb
    exact whole_any s A c W h (fun l hl => (lnB_iff.1 (rises_mem hb.2 l hl).1).2.2.2.2) hn
  have HV : Hid (validB s = (wi s.order 1 1099511627776 && wi s.status 0 5 && wi s.cur 0 3 && wi s.tax 0 5000 && linedB s.lines && wi s.refunded 0 s.paid && wi s.events 0 1099511627776 && wi s.refused 0 s.events && wi s.stamp 0 1099511627776 && namedB s.who && decide (s.paid ≤ due s) && priorB s && standsB s (standsAt s))) := Lib.hid rfl
  have HP : Hid (priorB s = if s.status = 2 then decide (s.prior = 1 ∨ s.prior = 3) else decide (s.prior = 0)) := Lib.hid rfl
  have HB := Lib.hid (show standsB s (standsAt s) = (if standsAt s = 0 then decide (s.lines.length = 0) && decide (s.cur = 0 ∧ s.tax = 0 ∧ s.events = s.refused ∧ s.stamp = 0) && decide (s.who.size = 0)
    else if standsAt s = 1 then noneB s.lines && !(decide (s.paid = due s ∧ 0 < s.paid)) && decide (s.refunded = 0)
    else if standsAt s = 3 then decide (s.paid = due s ∧ 0 < s.paid) && !allB s.lines
    else if standsAt s = 4 then decide (s.paid = due s ∧ 0 < s.paid) && allB s.lines
    else noneB s.lines) from by unfold standsB fullB; simp only [List.length_eq_zero_iff])
  have HD0 : Hid (s.lines.length = 0 → due s = 0) := Lib.hid fun h => by
    have : s.lines = [] := List.eq_nil_of_length_eq_zero h
    unfold due; rw [this]; simp [net, taxOf]
  generalize standsB s (standsAt s) = SB at *
  generalize standsAt s = AT at *
  generalize priorB s = PB at *
  generalize validB s = VB at *
  generalize noneB s.lines = NB at *
  generalize allB s.lines = AB at *
  generalize linedB s.lines = LB at *
  generalize due s = D at *
  generalize hNM : namedB s.who = NM at *
  clear hNM
  obtain ⟨order, status, prior, cur, tax, ls, paid, refunded, events, refused, stamp, who⟩ := s
  unfold stcells evcells at *
  dsimp only at *
  generalize ls.length = n at *
  have HVT : Hid (VB = true → (1 ≤ order ∧ order ≤ 1099511627776) ∧ (0 ≤ status ∧ status ≤ 5) ∧ (0 ≤ cur ∧ cur ≤ 3) ∧ (0 ≤ tax ∧ tax ≤ 5000) ∧ LB = true ∧ (0 ≤ refunded ∧ refunded ≤ paid) ∧ (0 ≤ events ∧ events ≤ 1099511627776) ∧ (0 ≤ refused ∧ refused ≤ events) ∧ (0 ≤ stamp ∧ stamp ≤ 1099511627776) ∧ NM = true ∧ paid ≤ D ∧ PB = true ∧ SB = true) := Lib.hid fun h => by
    rw [HV.out] at h
    simp only [and_t, wi_iff, decide_eq_true_eq] at h
    obtain ⟨⟨⟨⟨⟨⟨⟨⟨⟨⟨⟨⟨a1, a2⟩, a3⟩, a4⟩, a5⟩, a6⟩, a7⟩, a8⟩, a9⟩, a10⟩, a11⟩, a12⟩, a13⟩ := h
    exact ⟨a1, a2, a3, a4, a5, a6, a7, a8, a9, a10, a11, a12, a13⟩
  have HS := Lib.hid (fun w' (h : Ext (w.alloc (.cells #[.int .i64 order, .int .i64 status, .int .i64 prior, .int .i64 cur, .int .i64 tax, .slice A n c, .int .i64 paid, .int .i64 refunded, .int .i64 events, .int .i64 refused, .int .i64 stamp, .string who] 77)) w') => (⟨h, (Ext.blk h (BlkN rfl)).cell 0, (Ext.blk h (BlkN rfl)).cell 1, (Ext.blk h (BlkN rfl)).cell 2, (Ext.blk h (BlkN rfl)).cell 3, (Ext.blk h (BlkN rfl)).cell 4, (Ext.blk h (BlkN rfl)).cell 5, (Ext.blk h (BlkN rfl)).cell 6, (Ext.blk h (BlkN rfl)).cell 7, (Ext.blk h (BlkN rfl)).cell 8, (Ext.blk h (BlkN rfl)).cell 9, (Ext.blk h (BlkN rfl)).cell 10, (Ext.blk h (BlkN rfl)).cell 11⟩ : (fun w' : World => Ext (w.alloc (.cells #[.int .i64 order, .int .i64 status, .int .i64 prior, .int .i64 cur, .int .i64 tax, .slice A n c, .int .i64 paid, .int .i64 refunded, .int .i64 events, .int .i64 refused, .int .i64 stamp, .string who] 77)) w' ∧ w'.cell? ⟨w.heap.size, 0, none⟩ = some (.int .i64 order) ∧ w'.cell? ⟨w.heap.size, 1, none⟩ = some (.int .i64 status) ∧ w'.cell? ⟨w.heap.size, 2, none⟩ = some (.int .i64 prior) ∧ w'.cell? ⟨w.heap.size, 3, none⟩ = some (.int .i64 cur) ∧ w'.cell? ⟨w.heap.size, 4, none⟩ = some (.int .i64 tax) ∧ w'.cell? ⟨w.heap.size, 5, none⟩ = some (.slice A n c) ∧ w'.cell? ⟨w.heap.size, 6, none⟩ = some (.int .i64 paid) ∧ w'.cell? ⟨w.heap.size, 7, none⟩ = some (.int .i64 refunded) ∧ w'.cell? ⟨w.heap.size, 8, none⟩ = some (.int .i64 events) ∧ w'.cell? ⟨w.heap.size, 9, none⟩ = some (.int .i64 refused) ∧ w'.cell? ⟨w.heap.size, 10, none⟩ = some (.int .i64 stamp) ∧ w'.cell? ⟨w.heap.size, 11, none⟩ = some (.string who)) w'))
  go_enter Tryz.func114, Tryz.ntmps114
  go_wp2_with (first
    | (go_at_call 149; (with_reducible refine (KC.out _).mono ?_); rintro e w1 ⟨r, rfl, hr1, hx1⟩; have HRr := Lib.hid hr1; clear hr1; have h3 := HS.out w1 exA; go_split_ands)
    | (go_at_call 150; (with_reducible refine (KL.out _ (hr.ext exA)).mono ?_); rintro e w2 ⟨rfl, hx2⟩; have h3 := HS.out w2 exA; go_split_ands))
  all_goals first
    | ((go_ret; refine ⟨?_, exA⟩; have hvb : VB = false := (by cases hvb : VB with | false => rfl | true => exfalso; obtain ⟨f1, f2, f3, f4, f5, f6, f7, f8, f9, f10, f11, f12, f13⟩ := HVT.out hvb; (first | omega | (have h8 : (!LB) = true := (by assumption); rw [f5] at h8; simp at h8; done) | (have h9 := HRr.out.2 f10; omega) | (rw [HP.out] at f12; simp only [bne_iff_ne, ne_eq] at *; split at f12 <;> simp only [decide_eq_true_eq] at f12 <;> omega))); rw [hvb]; rfl); done)
    | skip
  have hLB : LB = true := by simpa using (by assumption : (!LB) = false)
  have Htx : Hid (0 ≤ tax ∧ tax ≤ 5000) := Lib.hid (by omega)
  by_cases r1 : refunded < 0
  · have t1 : decide (refunded < 0) = true := by simpa using r1
    (first | (go_quiet (fail)) | fail)
    all_goals (go_wp2_with fail)
    all_goals (go_ret; refine ⟨?_, exA⟩; have hvb : VB = false := (by cases hvb : VB with | false => rfl | true => exfalso; obtain ⟨f1, f2, f3, f4, f5, f6, f7, f8, f9, f10, f11, f12, f13⟩ := HVT.out hvb; (first | omega | (have h8 : (!LB) = true := (by assumption); rw [f5] at h8; simp at h8; done) | (have h9 := HRr.out.2 f10; omega) | (rw [HP.out] at f12; simp only [bne_iff_ne, ne_eq] at *; split at f12 <;> simp only [decide_eq_true_eq] at f12 <;> omega))); rw [hvb]; rfl)
  have t1 : decide (refunded < 0) = false := by simpa using r1
  by_cases r2 : paid < refunded
  · have t2 : decide (paid < refunded) = true := by simpa using r2
    (first | (go_quiet (fail)) | fail)
    all_goals (go_wp2_with fail)
    all_goals (go_ret; refine ⟨?_, exA⟩; have hvb : VB = false := (by cases hvb : VB with | false => rfl | true => exfalso; obtain ⟨f1, f2, f3, f4, f5, f6, f7, f8, f9, f10, f11, f12, f13⟩ := HVT.out hvb; (first | omega | (have h8 : (!LB) = true := (by assumption); rw [f5] at h8; simp at h8; done) | (have h9 := HRr.out.2 f10; omega) | (rw [HP.out] at f12; simp only [bne_iff_ne, ne_eq] at *; split at f12 <;> simp only [decide_eq_true_eq] at f12 <;> omega))); rw [hvb]; rfl)
  have t2 : decide (paid < refunded) = false := by simpa using r2
  have t3 : decide (paid < 0) = false := by simp; omega
  by_cases r4 : D < paid
  · have t4 : decide (D < paid) = true := by simpa using r4
    go_region_held3 (fun w' : World => Ext (w.alloc (.cells #[.int .i64 order, .int .i64 status, .int .i64 prior, .int .i64 cur, .int .i64 tax, .slice A n c, .int .i64 paid, .int .i64 refunded, .int .i64 events, .int .i64 refused, .int .i64 stamp, .string who] 77)) w' ∧ w'.cell? ⟨w.heap.size, 0, none⟩ = some (.int .i64 order) ∧ w'.cell? ⟨w.heap.size, 1, none⟩ = some (.int .i64 status) ∧ w'.cell? ⟨w.heap.size, 2, none⟩ = some (.int .i64 prior) ∧ w'.cell? ⟨w.heap.size, 3, none⟩ = some (.int .i64 cur) ∧ w'.cell? ⟨w.heap.size, 4, none⟩ = some (.int .i64 tax) ∧ w'.cell? ⟨w.heap.size, 5, none⟩ = some (.slice A n c) ∧ w'.cell? ⟨w.heap.size, 6, none⟩ = some (.int .i64 paid) ∧ w'.cell? ⟨w.heap.size, 7, none⟩ = some (.int .i64 refunded) ∧ w'.cell? ⟨w.heap.size, 8, none⟩ = some (.int .i64 events) ∧ w'.cell? ⟨w.heap.size, 9, none⟩ = some (.int .i64 refused) ∧ w'.cell? ⟨w.heap.size, 10, none⟩ = some (.int .i64 stamp) ∧ w'.cell? ⟨w.heap.size, 11, none⟩ = some (.string who)) (exact HS.out _ exA) ((go_at_call 151; (with_reducible refine (KD.out hLB Htx.out _ (hr.ext exA)).mono ?_); rintro e w3 ⟨rfl, hx3⟩; have h3 := HS.out w3 exA; go_split_ands))
    go_wp2_with fail
    all_goals (go_ret; refine ⟨?_, exA⟩; have hvb : VB = false := (by cases hvb : VB with | false => rfl | true => exfalso; obtain ⟨f1, f2, f3, f4, f5, f6, f7, f8, f9, f10, f11, f12, f13⟩ := HVT.out hvb; (first | omega | (have h8 : (!LB) = true := (by assumption); rw [f5] at h8; simp at h8; done) | (have h9 := HRr.out.2 f10; omega) | (rw [HP.out] at f12; simp only [bne_iff_ne, ne_eq] at *; split at f12 <;> simp only [decide_eq_true_eq] at f12 <;> omega))); rw [hvb]; rfl)
  have t4 : decide (D < paid) = false := by simpa using r4
  go_region_held3 (fun w' : World => Ext (w.alloc (.cells #[.int .i64 order, .int .i64 status, .int .i64 prior, .int .i64 cur, .int .i64 tax, .slice A n c, .int .i64 paid, .int .i64 refunded, .int .i64 events, .int .i64 refused, .int .i64 stamp, .string who] 77)) w' ∧ w'.cell? ⟨w.heap.size, 0, none⟩ = some (.int .i64 order) ∧ w'.cell? ⟨w.heap.size, 1, none⟩ = some (.int .i64 status) ∧ w'.cell? ⟨w.heap.size, 2, none⟩ = some (.int .i64 prior) ∧ w'.cell? ⟨w.heap.size, 3, none⟩ = some (.int .i64 cur) ∧ w'.cell? ⟨w.heap.size, 4, none⟩ = some (.int .i64 tax) ∧ w'.cell? ⟨w.heap.size, 5, none⟩ = some (.slice A n c) ∧ w'.cell? ⟨w.heap.size, 6, none⟩ = some (.int .i64 paid) ∧ w'.cell? ⟨w.heap.size, 7, none⟩ = some (.int .i64 refunded) ∧ w'.cell? ⟨w.heap.size, 8, none⟩ = some (.int .i64 events) ∧ w'.cell? ⟨w.heap.size, 9, none⟩ = some (.int .i64 refused) ∧ w'.cell? ⟨w.heap.size, 10, none⟩ = some (.int .i64 stamp) ∧ w'.cell? ⟨w.heap.size, 11, none⟩ = some (.string who)) (exact HS.out _ exA) ((go_at_call 151; (with_reducible refine (KD.out hLB Htx.out _ (hr.ext exA)).mono ?_); rintro e w3 ⟨rfl, hx3⟩; have h3 := HS.out w3 exA; go_split_ands))
  by_cases s2 : status = 2
  · have ts : (status == 2) = true := by simpa using s2
    have ts2 : (status != 2) = false := by simpa using s2
    by_cases q1 : prior = 1
    · have tq1 : (prior != 1) = false := by simpa using q1
      have HPB : Hid (PB = true) := Lib.hid (by rw [HP.out, if_pos s2]; simp [q1])
      clear q1 s2
      go_wp2_with fail
      have hNM : NM = true := HRr.out.1 (by assumption)
      have hVS : VB = SB := by
        rw [HV.out, HPB.out, hLB, hNM, show wi order 1 1099511627776 = true from wi_iff.2 (by omega), show wi status 0 5 = true from wi_iff.2 (by omega), show wi cur 0 3 = true from wi_iff.2 (by omega), show wi tax 0 5000 = true from wi_iff.2 (by omega), show wi refunded 0 paid = true from wi_iff.2 (by omega), show wi events 0 1099511627776 = true from wi_iff.2 (by omega), show wi refused 0 events = true from wi_iff.2 (by omega), show wi stamp 0 1099511627776 = true from wi_iff.2 (by omega), show decide (paid ≤ D) = true from by simp; omega]
        simp
      rw [HB.out] at hVS
      have HVS := Lib.hid hVS
      clear hVS
      by_cases p0 : 0 < paid
      · have t6 : decide (0 < paid) = true := by simpa using p0
        by_cases p1 : paid = D
        · have t7 : (paid == D) = true := by simpa using p1
          have P1 := Lib.hid p1
          clear p1
          go_region_held3 (fun w' : World => Ext (w.alloc (.cells #[.int .i64 order, .int .i64 status, .int .i64 prior, .int .i64 cur, .int .i64 tax, .slice A n c, .int .i64 paid, .int .i64 refunded, .int .i64 events, .int .i64 refused, .int .i64 stamp, .string who] 77)) w' ∧ w'.cell? ⟨w.heap.size, 0, none⟩ = some (.int .i64 order) ∧ w'.cell? ⟨w.heap.size, 1, none⟩ = some (.int .i64 status) ∧ w'.cell? ⟨w.heap.size, 2, none⟩ = some (.int .i64 prior) ∧ w'.cell? ⟨w.heap.size, 3, none⟩ = some (.int .i64 cur) ∧ w'.cell? ⟨w.heap.size, 4, none⟩ = some (.int .i64 tax) ∧ w'.cell? ⟨w.heap.size, 5, none⟩ = some (.slice A n c) ∧ w'.cell? ⟨w.heap.size, 6, none⟩ = some (.int .i64 paid) ∧ w'.cell? ⟨w.heap.size, 7, none⟩ = some (.int .i64 refunded) ∧ w'.cell? ⟨w.heap.size, 8, none⟩ = some (.int .i64 events) ∧ w'.cell? ⟨w.heap.size, 9, none⟩ = some (.int .i64 refused) ∧ w'.cell? ⟨w.heap.size, 10, none⟩ = some (.int .i64 stamp) ∧ w'.cell? ⟨w.heap.size, 11, none⟩ = some (.string who)) (exact HS.out _ exA) ((go_at_call 151; (with_reducible refine (KD.out hLB Htx.out _ (hr.ext exA)).mono ?_); rintro e w5 ⟨rfl, hx5⟩; have h3 := HS.out w5 exA; go_split_ands))
          go_wp2_with (first
    | (go_at_call 152; (with_reducible refine (KS.out _).mono ?_); rintro e w6 ⟨rfl, hx6⟩; have h3 := HS.out w6 exA; go_split_ands)
    | (go_at_call 153; (with_reducible refine (KU.out hLB _ (hr.ext exA)).mono ?_); rintro e w7 ⟨rfl, hx7⟩; have h3 := HS.out w7 exA; go_split_ands)
    | (go_at_call 154; (with_reducible refine (KW.out hLB _ (hr.ext exA)).mono ?_); rintro e w8 ⟨rfl, hx8⟩; have h3 := HS.out w8 exA; go_split_ands))
          all_goals (go_ret; refine ⟨?_, exA⟩; have hvs := HVS.out; have hpp := P1.out; have hD0 := HD0.out; rw [hvs]; clear KS KU KW KD HS HVS hvs HV HP HB HVT HD0 KC KL HRr HPB; (try simp only [beq_iff_eq, beq_eq_false_iff_ne, ne_eq, bne_iff_ne, bne_eq_false_iff_eq] at *); first | (simp [*, beq_dec, who_empty]; done) | (simp [*, beq_dec, who_empty]; omega) | (have hw9 := (who_nil who).1 (by assumption); simp [*, beq_dec, who_empty]; done) | (have hw9 := (who_nil who).1 (by assumption); simp only [beq_dec, who_empty] at *; simp [*]; exact decide_eq_decide.2 eq_comm) | (have hw9 := (who_nil who).1 (by assumption); simp [*, beq_dec, who_empty, eq_comm]; done) | (have hw9 : ¬ who = ByteArray.empty := fun h => absurd ((who_nil who).2 h) (by assumption); simp [*, beq_dec, who_empty]; done))
        · have t7 : (paid == D) = false := by simpa using p1
          have P1 := Lib.hid p1
          clear p1
          go_region_held3 (fun w' : World => Ext (w.alloc (.cells #[.int .i64 order, .int .i64 status, .int .i64 prior, .int .i64 cur, .int .i64 tax, .slice A n c, .int .i64 paid, .int .i64 refunded, .int .i64 events, .int .i64 refused, .int .i64 stamp, .string who] 77)) w' ∧ w'.cell? ⟨w.heap.size, 0, none⟩ = some (.int .i64 order) ∧ w'.cell? ⟨w.heap.size, 1, none⟩ = some (.int .i64 status) ∧ w'.cell? ⟨w.heap.size, 2, none⟩ = some (.int .i64 prior) ∧ w'.cell? ⟨w.heap.size, 3, none⟩ = some (.int .i64 cur) ∧ w'.cell? ⟨w.heap.size, 4, none⟩ = some (.int .i64 tax) ∧ w'.cell? ⟨w.heap.size, 5, none⟩ = some (.slice A n c) ∧ w'.cell? ⟨w.heap.size, 6, none⟩ = some (.int .i64 paid) ∧ w'.cell? ⟨w.heap.size, 7, none⟩ = some (.int .i64 refunded) ∧ w'.cell? ⟨w.heap.size, 8, none⟩ = some (.int .i64 events) ∧ w'.cell? ⟨w.heap.size, 9, none⟩ = some (.int .i64 refused) ∧ w'.cell? ⟨w.heap.size, 10, none⟩ = some (.int .i64 stamp) ∧ w'.cell? ⟨w.heap.size, 11, none⟩ = some (.string who)) (exact HS.out _ exA) ((go_at_call 151; (with_reducible refine (KD.out hLB Htx.out _ (hr.ext exA)).mono ?_); rintro e w5 ⟨rfl, hx5⟩; have h3 := HS.out w5 exA; go_split_ands))
          go_wp2_with (first
    | (go_at_call 152; (with_reducible refine (KS.out _).mono ?_); rintro e w6 ⟨rfl, hx6⟩; have h3 := HS.out w6 exA; go_split_ands)
    | (go_at_call 153; (with_reducible refine (KU.out hLB _ (hr.ext exA)).mono ?_); rintro e w7 ⟨rfl, hx7⟩; have h3 := HS.out w7 exA; go_split_ands)
    | (go_at_call 154; (with_reducible refine (KW.out hLB _ (hr.ext exA)).mono ?_); rintro e w8 ⟨rfl, hx8⟩; have h3 := HS.out w8 exA; go_split_ands))
          all_goals (go_ret; refine ⟨?_, exA⟩; have hvs := HVS.out; have hpp := P1.out; have hD0 := HD0.out; rw [hvs]; clear KS KU KW KD HS HVS hvs HV HP HB HVT HD0 KC KL HRr HPB; (try simp only [beq_iff_eq, beq_eq_false_iff_ne, ne_eq, bne_iff_ne, bne_eq_false_iff_eq] at *); first | (simp [*, beq_dec, who_empty]; done) | (simp [*, beq_dec, who_empty]; omega) | (have hw9 := (who_nil who).1 (by assumption); simp [*, beq_dec, who_empty]; done) | (have hw9 := (who_nil who).1 (by assumption); simp only [beq_dec, who_empty] at *; simp [*]; exact decide_eq_decide.2 eq_comm) | (have hw9 := (who_nil who).1 (by assumption); simp [*, beq_dec, who_empty, eq_comm]; done) | (have hw9 : ¬ who = ByteArray.empty := fun h => absurd ((who_nil who).2 h) (by assumption); simp [*, beq_dec, who_empty]; done))
      · have t6 : decide (0 < paid) = false := by simpa using p0
        have P1 := Lib.hid p0
        (first | (go_quiet (fail)) | fail)
        go_wp2_with (first
    | (go_at_call 152; (with_reducible refine (KS.out _).mono ?_); rintro e w6 ⟨rfl, hx6⟩; have h3 := HS.out w6 exA; go_split_ands)
    | (go_at_call 153; (with_reducible refine (KU.out hLB _ (hr.ext exA)).mono ?_); rintro e w7 ⟨rfl, hx7⟩; have h3 := HS.out w7 exA; go_split_ands)
    | (go_at_call 154; (with_reducible refine (KW.out hLB _ (hr.ext exA)).mono ?_); rintro e w8 ⟨rfl, hx8⟩; have h3 := HS.out w8 exA; go_split_ands))
        all_goals (go_ret; refine ⟨?_, exA⟩; have hvs := HVS.out; have hpp := P1.out; have hD0 := HD0.out; rw [hvs]; clear KS KU KW KD HS HVS hvs HV HP HB HVT HD0 KC KL HRr HPB; (try simp only [beq_iff_eq, beq_eq_false_iff_ne, ne_eq, bne_iff_ne, bne_eq_false_iff_eq] at *); first | (simp [*, beq_dec, who_empty]; done) | (simp [*, beq_dec, who_empty]; omega) | (have hw9 := (who_nil who).1 (by assumption); simp [*, beq_dec, who_empty]; done) | (have hw9 := (who_nil who).1 (by assumption); simp only [beq_dec, who_empty] at *; simp [*]; exact decide_eq_decide.2 eq_comm) | (have hw9 := (who_nil who).1 (by assumption); simp [*, beq_dec, who_empty, eq_comm]; done) | (have hw9 : ¬ who = ByteArray.empty := fun h => absurd ((who_nil who).2 h) (by assumption); simp [*, beq_dec, who_empty]; done))
    have tq1 : (prior != 1) = true := by simpa using q1
    by_cases q3 : prior = 3
    · have tq3 : (prior != 3) = false := by simpa using q3
      have HPB : Hid (PB = true) := Lib.hid (by rw [HP.out, if_pos s2]; simp [q3])
      clear q1 q3 s2
      go_wp2_with fail
      have hNM : NM = true := HRr.out.1 (by assumption)
      have hVS : VB = SB := by
        rw [HV.out, HPB.out, hLB, hNM, show wi order 1 1099511627776 = true from wi_iff.2 (by omega), show wi status 0 5 = true from wi_iff.2 (by omega), show wi cur 0 3 = true from wi_iff.2 (by omega), show wi tax 0 5000 = true from wi_iff.2 (by omega), show wi refunded 0 paid = true from wi_iff.2 (by omega), show wi events 0 1099511627776 = true from wi_iff.2 (by omega), show wi refused 0 events = true from wi_iff.2 (by omega), show wi stamp 0 1099511627776 = true from wi_iff.2 (by omega), show decide (paid ≤ D) = true from by simp; omega]
        simp
      rw [HB.out] at hVS
      have HVS := Lib.hid hVS
      clear hVS
      by_cases p0 : 0 < paid
      · have t6 : decide (0 < paid) = true := by simpa using p0
        by_cases p1 : paid = D
        · have t7 : (paid == D) = true := by simpa using p1
          have P1 := Lib.hid p1
          clear p1
          go_region_held3 (fun w' : World => Ext (w.alloc (.cells #[.int .i64 order, .int .i64 status, .int .i64 prior, .int .i64 cur, .int .i64 tax, .slice A n c, .int .i64 paid, .int .i64 refunded, .int .i64 events, .int .i64 refused, .int .i64 stamp, .string who] 77)) w' ∧ w'.cell? ⟨w.heap.size, 0, none⟩ = some (.int .i64 order) ∧ w'.cell? ⟨w.heap.size, 1, none⟩ = some (.int .i64 status) ∧ w'.cell? ⟨w.heap.size, 2, none⟩ = some (.int .i64 prior) ∧ w'.cell? ⟨w.heap.size, 3, none⟩ = some (.int .i64 cur) ∧ w'.cell? ⟨w.heap.size, 4, none⟩ = some (.int .i64 tax) ∧ w'.cell? ⟨w.heap.size, 5, none⟩ = some (.slice A n c) ∧ w'.cell? ⟨w.heap.size, 6, none⟩ = some (.int .i64 paid) ∧ w'.cell? ⟨w.heap.size, 7, none⟩ = some (.int .i64 refunded) ∧ w'.cell? ⟨w.heap.size, 8, none⟩ = some (.int .i64 events) ∧ w'.cell? ⟨w.heap.size, 9, none⟩ = some (.int .i64 refused) ∧ w'.cell? ⟨w.heap.size, 10, none⟩ = some (.int .i64 stamp) ∧ w'.cell? ⟨w.heap.size, 11, none⟩ = some (.string who)) (exact HS.out _ exA) ((go_at_call 151; (with_reducible refine (KD.out hLB Htx.out _ (hr.ext exA)).mono ?_); rintro e w5 ⟨rfl, hx5⟩; have h3 := HS.out w5 exA; go_split_ands))
          go_wp2_with (first
    | (go_at_call 152; (with_reducible refine (KS.out _).mono ?_); rintro e w6 ⟨rfl, hx6⟩; have h3 := HS.out w6 exA; go_split_ands)
    | (go_at_call 153; (with_reducible refine (KU.out hLB _ (hr.ext exA)).mono ?_); rintro e w7 ⟨rfl, hx7⟩; have h3 := HS.out w7 exA; go_split_ands)
    | (go_at_call 154; (with_reducible refine (KW.out hLB _ (hr.ext exA)).mono ?_); rintro e w8 ⟨rfl, hx8⟩; have h3 := HS.out w8 exA; go_split_ands))
          all_goals (go_ret; refine ⟨?_, exA⟩; have hvs := HVS.out; have hpp := P1.out; have hD0 := HD0.out; rw [hvs]; clear KS KU KW KD HS HVS hvs HV HP HB HVT HD0 KC KL HRr HPB; (try simp only [beq_iff_eq, beq_eq_false_iff_ne, ne_eq, bne_iff_ne, bne_eq_false_iff_eq] at *); first | (simp [*, beq_dec, who_empty]; done) | (simp [*, beq_dec, who_empty]; omega) | (have hw9 := (who_nil who).1 (by assumption); simp [*, beq_dec, who_empty]; done) | (have hw9 := (who_nil who).1 (by assumption); simp only [beq_dec, who_empty] at *; simp [*]; exact decide_eq_decide.2 eq_comm) | (have hw9 := (who_nil who).1 (by assumption); simp [*, beq_dec, who_empty, eq_comm]; done) | (have hw9 : ¬ who = ByteArray.empty := fun h => absurd ((who_nil who).2 h) (by assumption); simp [*, beq_dec, who_empty]; done))
        · have t7 : (paid == D) = false := by simpa using p1
          have P1 := Lib.hid p1
          clear p1
          go_region_held3 (fun w' : World => Ext (w.alloc (.cells #[.int .i64 order, .int .i64 status, .int .i64 prior, .int .i64 cur, .int .i64 tax, .slice A n c, .int .i64 paid, .int .i64 refunded, .int .i64 events, .int .i64 refused, .int .i64 stamp, .string who] 77)) w' ∧ w'.cell? ⟨w.heap.size, 0, none⟩ = some (.int .i64 order) ∧ w'.cell? ⟨w.heap.size, 1, none⟩ = some (.int .i64 status) ∧ w'.cell? ⟨w.heap.size, 2, none⟩ = some (.int .i64 prior) ∧ w'.cell? ⟨w.heap.size, 3, none⟩ = some (.int .i64 cur) ∧ w'.cell? ⟨w.heap.size, 4, none⟩ = some (.int .i64 tax) ∧ w'.cell? ⟨w.heap.size, 5, none⟩ = some (.slice A n c) ∧ w'.cell? ⟨w.heap.size, 6, none⟩ = some (.int .i64 paid) ∧ w'.cell? ⟨w.heap.size, 7, none⟩ = some (.int .i64 refunded) ∧ w'.cell? ⟨w.heap.size, 8, none⟩ = some (.int .i64 events) ∧ w'.cell? ⟨w.heap.size, 9, none⟩ = some (.int .i64 refused) ∧ w'.cell? ⟨w.heap.size, 10, none⟩ = some (.int .i64 stamp) ∧ w'.cell? ⟨w.heap.size, 11, none⟩ = some (.string who)) (exact HS.out _ exA) ((go_at_call 151; (with_reducible refine (KD.out hLB Htx.out _ (hr.ext exA)).mono ?_); rintro e w5 ⟨rfl, hx5⟩; have h3 := HS.out w5 exA; go_split_ands))
          go_wp2_with (first
    | (go_at_call 152; (with_reducible refine (KS.out _).mono ?_); rintro e w6 ⟨rfl, hx6⟩; have h3 := HS.out w6 exA; go_split_ands)
    | (go_at_call 153; (with_reducible refine (KU.out hLB _ (hr.ext exA)).mono ?_); rintro e w7 ⟨rfl, hx7⟩; have h3 := HS.out w7 exA; go_split_ands)
    | (go_at_call 154; (with_reducible refine (KW.out hLB _ (hr.ext exA)).mono ?_); rintro e w8 ⟨rfl, hx8⟩; have h3 := HS.out w8 exA; go_split_ands))
          all_goals (go_ret; refine ⟨?_, exA⟩; have hvs := HVS.out; have hpp := P1.out; have hD0 := HD0.out; rw [hvs]; clear KS KU KW KD HS HVS hvs HV HP HB HVT HD0 KC KL HRr HPB; (try simp only [beq_iff_eq, beq_eq_false_iff_ne, ne_eq, bne_iff_ne, bne_eq_false_iff_eq] at *); first | (simp [*, beq_dec, who_empty]; done) | (simp [*, beq_dec, who_empty]; omega) | (have hw9 := (who_nil who).1 (by assumption); simp [*, beq_dec, who_empty]; done) | (have hw9 := (who_nil who).1 (by assumption); simp only [beq_dec, who_empty] at *; simp [*]; exact decide_eq_decide.2 eq_comm) | (have hw9 := (who_nil who).1 (by assumption); simp [*, beq_dec, who_empty, eq_comm]; done) | (have hw9 : ¬ who = ByteArray.empty := fun h => absurd ((who_nil who).2 h) (by assumption); simp [*, beq_dec, who_empty]; done))
      · have t6 : decide (0 < paid) = false := by simpa using p0
        have P1 := Lib.hid p0
        (first | (go_quiet (fail)) | fail)
        go_wp2_with (first
    | (go_at_call 152; (with_reducible refine (KS.out _).mono ?_); rintro e w6 ⟨rfl, hx6⟩; have h3 := HS.out w6 exA; go_split_ands)
    | (go_at_call 153; (with_reducible refine (KU.out hLB _ (hr.ext exA)).mono ?_); rintro e w7 ⟨rfl, hx7⟩; have h3 := HS.out w7 exA; go_split_ands)
    | (go_at_call 154; (with_reducible refine (KW.out hLB _ (hr.ext exA)).mono ?_); rintro e w8 ⟨rfl, hx8⟩; have h3 := HS.out w8 exA; go_split_ands))
        all_goals (go_ret; refine ⟨?_, exA⟩; have hvs := HVS.out; have hpp := P1.out; have hD0 := HD0.out; rw [hvs]; clear KS KU KW KD HS HVS hvs HV HP HB HVT HD0 KC KL HRr HPB; (try simp only [beq_iff_eq, beq_eq_false_iff_ne, ne_eq, bne_iff_ne, bne_eq_false_iff_eq] at *); first | (simp [*, beq_dec, who_empty]; done) | (simp [*, beq_dec, who_empty]; omega) | (have hw9 := (who_nil who).1 (by assumption); simp [*, beq_dec, who_empty]; done) | (have hw9 := (who_nil who).1 (by assumption); simp only [beq_dec, who_empty] at *; simp [*]; exact decide_eq_decide.2 eq_comm) | (have hw9 := (who_nil who).1 (by assumption); simp [*, beq_dec, who_empty, eq_comm]; done) | (have hw9 : ¬ who = ByteArray.empty := fun h => absurd ((who_nil who).2 h) (by assumption); simp [*, beq_dec, who_empty]; done))
    have tq3 : (prior != 3) = true := by simpa using q3
    have S2 := Lib.hid s2
    clear s2
    go_wp2_with fail
    go_ret
    refine ⟨?_, exA⟩
    have hvb : VB = false := by rw [HV.out, HP.out, if_pos S2.out]; simp [q1, q3]
    rw [hvb]; rfl
  · have ts : (status == 2) = false := by simpa using s2
    have ts2 : (status != 2) = true := by simpa using s2
    by_cases q0 : prior = 0
    · have tq0 : (prior != 0) = false := by simpa using q0
      have HPB : Hid (PB = true) := Lib.hid (by rw [HP.out, if_neg s2]; simp [q0])
      clear q0 s2
      go_wp2_with fail
      have hNM : NM = true := HRr.out.1 (by assumption)
      have hVS : VB = SB := by
        rw [HV.out, HPB.out, hLB, hNM, show wi order 1 1099511627776 = true from wi_iff.2 (by omega), show wi status 0 5 = true from wi_iff.2 (by omega), show wi cur 0 3 = true from wi_iff.2 (by omega), show wi tax 0 5000 = true from wi_iff.2 (by omega), show wi refunded 0 paid = true from wi_iff.2 (by omega), show wi events 0 1099511627776 = true from wi_iff.2 (by omega), show wi refused 0 events = true from wi_iff.2 (by omega), show wi stamp 0 1099511627776 = true from wi_iff.2 (by omega), show decide (paid ≤ D) = true from by simp; omega]
        simp
      rw [HB.out] at hVS
      have HVS := Lib.hid hVS
      clear hVS
      by_cases p0 : 0 < paid
      · have t6 : decide (0 < paid) = true := by simpa using p0
        by_cases p1 : paid = D
        · have t7 : (paid == D) = true := by simpa using p1
          have P1 := Lib.hid p1
          clear p1
          go_region_held3 (fun w' : World => Ext (w.alloc (.cells #[.int .i64 order, .int .i64 status, .int .i64 prior, .int .i64 cur, .int .i64 tax, .slice A n c, .int .i64 paid, .int .i64 refunded, .int .i64 events, .int .i64 refused, .int .i64 stamp, .string who] 77)) w' ∧ w'.cell? ⟨w.heap.size, 0, none⟩ = some (.int .i64 order) ∧ w'.cell? ⟨w.heap.size, 1, none⟩ = some (.int .i64 status) ∧ w'.cell? ⟨w.heap.size, 2, none⟩ = some (.int .i64 prior) ∧ w'.cell? ⟨w.heap.size, 3, none⟩ = some (.int .i64 cur) ∧ w'.cell? ⟨w.heap.size, 4, none⟩ = some (.int .i64 tax) ∧ w'.cell? ⟨w.heap.size, 5, none⟩ = some (.slice A n c) ∧ w'.cell? ⟨w.heap.size, 6, none⟩ = some (.int .i64 paid) ∧ w'.cell? ⟨w.heap.size, 7, none⟩ = some (.int .i64 refunded) ∧ w'.cell? ⟨w.heap.size, 8, none⟩ = some (.int .i64 events) ∧ w'.cell? ⟨w.heap.size, 9, none⟩ = some (.int .i64 refused) ∧ w'.cell? ⟨w.heap.size, 10, none⟩ = some (.int .i64 stamp) ∧ w'.cell? ⟨w.heap.size, 11, none⟩ = some (.string who)) (exact HS.out _ exA) ((go_at_call 151; (with_reducible refine (KD.out hLB Htx.out _ (hr.ext exA)).mono ?_); rintro e w5 ⟨rfl, hx5⟩; have h3 := HS.out w5 exA; go_split_ands))
          go_wp2_with (first
    | (go_at_call 152; (with_reducible refine (KS.out _).mono ?_); rintro e w6 ⟨rfl, hx6⟩; have h3 := HS.out w6 exA; go_split_ands)
    | (go_at_call 153; (with_reducible refine (KU.out hLB _ (hr.ext exA)).mono ?_); rintro e w7 ⟨rfl, hx7⟩; have h3 := HS.out w7 exA; go_split_ands)
    | (go_at_call 154; (with_reducible refine (KW.out hLB _ (hr.ext exA)).mono ?_); rintro e w8 ⟨rfl, hx8⟩; have h3 := HS.out w8 exA; go_split_ands))
          all_goals (go_ret; refine ⟨?_, exA⟩; have hvs := HVS.out; have hpp := P1.out; have hD0 := HD0.out; rw [hvs]; clear KS KU KW KD HS HVS hvs HV HP HB HVT HD0 KC KL HRr HPB; (try simp only [beq_iff_eq, beq_eq_false_iff_ne, ne_eq, bne_iff_ne, bne_eq_false_iff_eq] at *); first | (simp [*, beq_dec, who_empty]; done) | (simp [*, beq_dec, who_empty]; omega) | (have hw9 := (who_nil who).1 (by assumption); simp [*, beq_dec, who_empty]; done) | (have hw9 := (who_nil who).1 (by assumption); simp only [beq_dec, who_empty] at *; simp [*]; exact decide_eq_decide.2 eq_comm) | (have hw9 := (who_nil who).1 (by assumption); simp [*, beq_dec, who_empty, eq_comm]; done) | (have hw9 : ¬ who = ByteArray.empty := fun h => absurd ((who_nil who).2 h) (by assumption); simp [*, beq_dec, who_empty]; done))
        · have t7 : (paid == D) = false := by simpa using p1
          have P1 := Lib.hid p1
          clear p1
          go_region_held3 (fun w' : World => Ext (w.alloc (.cells #[.int .i64 order, .int .i64 status, .int .i64 prior, .int .i64 cur, .int .i64 tax, .slice A n c, .int .i64 paid, .int .i64 refunded, .int .i64 events, .int .i64 refused, .int .i64 stamp, .string who] 77)) w' ∧ w'.cell? ⟨w.heap.size, 0, none⟩ = some (.int .i64 order) ∧ w'.cell? ⟨w.heap.size, 1, none⟩ = some (.int .i64 status) ∧ w'.cell? ⟨w.heap.size, 2, none⟩ = some (.int .i64 prior) ∧ w'.cell? ⟨w.heap.size, 3, none⟩ = some (.int .i64 cur) ∧ w'.cell? ⟨w.heap.size, 4, none⟩ = some (.int .i64 tax) ∧ w'.cell? ⟨w.heap.size, 5, none⟩ = some (.slice A n c) ∧ w'.cell? ⟨w.heap.size, 6, none⟩ = some (.int .i64 paid) ∧ w'.cell? ⟨w.heap.size, 7, none⟩ = some (.int .i64 refunded) ∧ w'.cell? ⟨w.heap.size, 8, none⟩ = some (.int .i64 events) ∧ w'.cell? ⟨w.heap.size, 9, none⟩ = some (.int .i64 refused) ∧ w'.cell? ⟨w.heap.size, 10, none⟩ = some (.int .i64 stamp) ∧ w'.cell? ⟨w.heap.size, 11, none⟩ = some (.string who)) (exact HS.out _ exA) ((go_at_call 151; (with_reducible refine (KD.out hLB Htx.out _ (hr.ext exA)).mono ?_); rintro e w5 ⟨rfl, hx5⟩; have h3 := HS.out w5 exA; go_split_ands))
          go_wp2_with (first
    | (go_at_call 152; (with_reducible refine (KS.out _).mono ?_); rintro e w6 ⟨rfl, hx6⟩; have h3 := HS.out w6 exA; go_split_ands)
    | (go_at_call 153; (with_reducible refine (KU.out hLB _ (hr.ext exA)).mono ?_); rintro e w7 ⟨rfl, hx7⟩; have h3 := HS.out w7 exA; go_split_ands)
    | (go_at_call 154; (with_reducible refine (KW.out hLB _ (hr.ext exA)).mono ?_); rintro e w8 ⟨rfl, hx8⟩; have h3 := HS.out w8 exA; go_split_ands))
          all_goals (go_ret; refine ⟨?_, exA⟩; have hvs := HVS.out; have hpp := P1.out; have hD0 := HD0.out; rw [hvs]; clear KS KU KW KD HS HVS hvs HV HP HB HVT HD0 KC KL HRr HPB; (try simp only [beq_iff_eq, beq_eq_false_iff_ne, ne_eq, bne_iff_ne, bne_eq_false_iff_eq] at *); first | (simp [*, beq_dec, who_empty]; done) | (simp [*, beq_dec, who_empty]; omega) | (have hw9 := (who_nil who).1 (by assumption); simp [*, beq_dec, who_empty]; done) | (have hw9 := (who_nil who).1 (by assumption); simp only [beq_dec, who_empty] at *; simp [*]; exact decide_eq_decide.2 eq_comm) | (have hw9 := (who_nil who).1 (by assumption); simp [*, beq_dec, who_empty, eq_comm]; done) | (have hw9 : ¬ who = ByteArray.empty := fun h => absurd ((who_nil who).2 h) (by assumption); simp [*, beq_dec, who_empty]; done))
      · have t6 : decide (0 < paid) = false := by simpa using p0
        have P1 := Lib.hid p0
        (first | (go_quiet (fail)) | fail)
        go_wp2_with (first
    | (go_at_call 152; (with_reducible refine (KS.out _).mono ?_); rintro e w6 ⟨rfl, hx6⟩; have h3 := HS.out w6 exA; go_split_ands)
    | (go_at_call 153; (with_reducible refine (KU.out hLB _ (hr.ext exA)).mono ?_); rintro e w7 ⟨rfl, hx7⟩; have h3 := HS.out w7 exA; go_split_ands)
    | (go_at_call 154; (with_reducible refine (KW.out hLB _ (hr.ext exA)).mono ?_); rintro e w8 ⟨rfl, hx8⟩; have h3 := HS.out w8 exA; go_split_ands))
        all_goals (go_ret; refine ⟨?_, exA⟩; have hvs := HVS.out; have hpp := P1.out; have hD0 := HD0.out; rw [hvs]; clear KS KU KW KD HS HVS hvs HV HP HB HVT HD0 KC KL HRr HPB; (try simp only [beq_iff_eq, beq_eq_false_iff_ne, ne_eq, bne_iff_ne, bne_eq_false_iff_eq] at *); first | (simp [*, beq_dec, who_empty]; done) | (simp [*, beq_dec, who_empty]; omega) | (have hw9 := (who_nil who).1 (by assumption); simp [*, beq_dec, who_empty]; done) | (have hw9 := (who_nil who).1 (by assumption); simp only [beq_dec, who_empty] at *; simp [*]; exact decide_eq_decide.2 eq_comm) | (have hw9 := (who_nil who).1 (by assumption); simp [*, beq_dec, who_empty, eq_comm]; done) | (have hw9 : ¬ who = ByteArray.empty := fun h => absurd ((who_nil who).2 h) (by assumption); simp [*, beq_dec, who_empty]; done))
    have tq0 : (prior != 0) = true := by simpa using q0
    go_wp2_with fail
    go_ret
    refine ⟨?_, exA⟩
    have hvb : VB = false := by rw [HV.out, HP.out, if_neg s2]; simp [q0]
    rw [hvb]; rfl
end Go.Proofs.YtjajbbgebblalaaGreatDoor
