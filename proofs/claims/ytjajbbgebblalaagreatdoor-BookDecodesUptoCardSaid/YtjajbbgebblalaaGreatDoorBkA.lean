/-
  The walks of chapter 17's Copy, of the two Valids, of Same at equal books.
-/
import Derived.Test.YtjajbbgebblalaaGreatDoorSsW
import Derived.Test.YtjajbbgebblalaaGreatDoorCrcP
import Derived.Test.YtjajbbgebblalaaGreatDoorOrdS
import Derived.Test.YtjajbbgebblalaaGreatDoorOrdRa
import Derived.Test.YtjajbbgebblalaaGreatDoorOrdW
import Derived.Test.YtjajbbgebblalaaGreatDoorHand
namespace Go.Proofs.YtjajbbgebblalaaGreatDoor
open Go.RowKit
set_option linter.unusedVariables false
set_option linter.unusedSimpArgs false
section
variable {P : Program} {md : Region.Mode} {ops : Array Oper} {Q : Exit → Act → World → Prop} {a a2 : Act} {w : World} {S : World → Prop} {fuel : Nat} {listed : Array Bool}
theorem takeQ {op : Op} {ty : TypeId} {ps : String} {af : Array Edge} {gd : Option (Nat × Bool)} (d i : Nat) (v : Value) (hS : S w) (h : wpAnyH P md ops Q S fuel (listed.setIfInBounds i true) a2 w) (hi : ops[i]? = some ⟨some d, op, ty, ps, af, gd⟩ := by rfl) (hs : Region.noSelect ops = true := by kernel_rfl) (hf : Region.free md ops listed i = true := by kernel_rfl) (hr : (Region.ready md ops listed).contains i = true := by kernel_rfl) (hQ : ∀ c a w, Q (.panic c) (a.put (some d) v) w → Q (.panic c) a w := by exact fun _ _ _ h => h)
    (hy : YieldsIf P ops S ⟨some d, op, ty, ps, af, gd⟩ v a := by exact (Or.inl ⟨by kernel_rfl, fun w' hw => by go_simp⟩)) (ha : a.put (some d) v = a2 := by ((conv => lhs; simp only [Act.put, List.setIfInBounds_toArray, List.set_cons_zero, List.set_cons_succ]) <;> rfl)) : wpAnyH P md ops Q S (fuel + 1) listed a w :=
  takeD (some d) hi rfl hs hf hr hQ hy hS (ha ▸ h)
theorem takeN {op : Op} {ty : TypeId} {ps : String} {af : Array Edge} {gd : Option (Nat × Bool)} (d i : Nat) (hS : S w) (h : wpAnyH P md ops Q S fuel (listed.setIfInBounds i true) a2 w) (hi : ops[i]? = some ⟨some d, op, ty, ps, af, gd⟩ := by rfl) (hs : Region.noSelect ops = true := by kernel_rfl) (hf : Region.free md ops listed i = true := by kernel_rfl) (hr : (Region.ready md ops listed).contains i = true := by kernel_rfl) (hQ : ∀ c a w, Q (.panic c) (a.put (some d) undef) w → Q (.panic c) a w := by exact fun _ _ _ h => h)
    (hy : YieldsIf P ops S ⟨some d, op, ty, ps, af, gd⟩ undef a := by exact (Or.inr ⟨by kernel_rfl, rfl⟩)) (ha : a.put (some d) undef = a2 := by ((conv => lhs; simp only [Act.put, List.setIfInBounds_toArray, List.set_cons_zero, List.set_cons_succ]) <;> rfl)) : wpAnyH P md ops Q S (fuel + 1) listed a w :=
  takeD (some d) hi rfl hs hf hr hQ hy hS (ha ▸ h)
end
def SsSm (ss : List St) : Prop := ∀ s ∈ ss, StSm s
theorem alloc_st0 (w : World) : (Instr.alloc 77 true (.tuple #[])).run Tryz.prog w = .ok (.pointer (some ⟨w.heap.size, 0, none⟩)) (w.alloc (.cells #[.int .i64 0, .int .i64 0, .int .i64 0, .int .i64 0, .int .i64 0, .slice none 0 0, .int .i64 0, .int .i64 0, .int .i64 0, .int .i64 0, .int .i64 0, .string ⟨#[]⟩] 77)) := by kernel_rfl
def BvR (w : World) (ss : List St) (c3 c8 : Value) (wr : World) : Prop :=
  ∃ (k : Nat) (last : Int), c8 = .int .i64 (k : Nat) ∧ k ≤ ss.length ∧ c3 = .int .i64 last ∧ bookB 0 ss = bookB last (ss.drop k) ∧ Ext w wr
set_option maxRecDepth 100000 in
set_option maxHeartbeats 4000000 in
theorem bvalid_any (ss : List St) (A : Option Addr) (n c : Nat) (w : World) (hr : SsRd w A n ss) (hn : n ≤ 4611686018427387904) (hs : SsSm ss) :
    Calls Tryz.prog 79 #[.slice A n c] w fun e w' => e = .returned (.bool (bookB 0 ss)) ∧ Ext w w' := by
  have hlen := hr.len
  have Hlen := Lib.hid hlen
  have HR := Lib.hid hr
  have HSm := Lib.hid hs
  have hal := alloc_st0
  clear hlen hr hs
  go_enter Tryz.func79, Tryz.ntmps79
  go_wp2_with fail
  go_loopw [3, 8] (fun c3 c8 wr => BvR w ss c3 c8 wr) (fun _ c8 _ => n - (intOf c8).toNat)
  case atStart => exact ⟨0, 0, rfl, by omega, rfl, rfl, Ext.rfl' w⟩
  case round =>
    obtain ⟨k, last, rfl, hk, rfl, hB, hx⟩ := hrel
    rw [Hlen.out] at hk
    by_cases hlt : k < n
    · obtain ⟨b, o, s, As, cs, hsk, rfl, hc, hls⟩ := ss_at (HR.out.ext hx) hlt
      have hsm := HSm.out s (List.mem_of_getElem? hsk)
      have KV := Lib.hid fun W (hx2 : Ext wr W) => valid_any s As cs W (LsRd.ext hls hx2) (by have := hsm.1; omega) hsm.2
      have hdr : ss.drop k = s :: ss.drop (k + 1) := by
        have h1 := (List.getElem?_eq_some_iff.1 hsk)
        rw [List.drop_eq_getElem_cons h1.1, h1.2]
      have hB2 : bookB 0 ss = (decide (last < s.order) && decide (1 ≤ s.events) && validB s && bookB s.order (ss.drop (k + 1))) := by rw [hB, hdr]; rfl
      have HB := Lib.hid hB2
      obtain ⟨order, status, prior, cur, tax, ls, paid, refunded, events, refused, stamp, who⟩ := s
      obtain ⟨n2, hn2⟩ : ∃ n2, n2 = ls.length := ⟨_, rfl⟩
      have Hc : Hid (wr.rangeAt b (o + k * 12) (#[.int .i64 order, .int .i64 status, .int .i64 prior, .int .i64 cur, .int .i64 tax, .slice As n2 cs, .int .i64 paid, .int .i64 refunded, .int .i64 events, .int .i64 refused, .int .i64 stamp, .string who] : Array Value).toList) := Lib.hid (by rw [hn2]; exact hc)
      unfold stcells at KV
      dsimp only at KV HB
      rw [← hn2] at KV
      generalize validB ⟨order, status, prior, cur, tax, ls, paid, refunded, events, refused, stamp, who⟩ = v at *
      clear hn2 hc hls hsm hsk hB hdr hB2
      by_cases h1 : order ≤ last
      · have d1 : decide (order ≤ last) = true := by simpa using h1
        have e1 : bookB 0 ss = false := by rw [HB.out, show decide (last < order) = false by simp; omega]; rfl
        have E1 := Lib.hid e1
        clear h1 HB e1
        go_wp2_with (first
          | (change wpList _ _ _ (⟨some 11, _, _, _, _, _⟩ :: _) _ _; refine wp_load_ss rfl (.tmp 10) rfl b (o + k * 12) rfl #[.int .i64 order, .int .i64 status, .int .i64 prior, .int .i64 cur, .int .i64 tax, .slice As n2 cs, .int .i64 paid, .int .i64 refunded, .int .i64 events, .int .i64 refused, .int .i64 stamp, .string who] rfl Hc.out ?_)
          | (change wpList _ _ _ (⟨none, .store _ (.tmp 5) _, _, _, _, _⟩ :: _) _ _; refine wpL_store_new rfl 77 (.tmp 5) (.tmp 11) rfl wr.heap.size 77 #[.int .i64 0, .int .i64 0, .int .i64 0, .int .i64 0, .int .i64 0, .slice none 0 0, .int .i64 0, .int .i64 0, .int .i64 0, .int .i64 0, .int .i64 0, .string ⟨#[]⟩] #[.int .i64 order, .int .i64 status, .int .i64 prior, .int .i64 cur, .int .i64 tax, .slice As n2 cs, .int .i64 paid, .int .i64 refunded, .int .i64 events, .int .i64 refused, .int .i64 stamp, .string who] rfl rfl rfl rfl (st_one' _ _ _ _ _ _ _ _ _ _ _ _ _ _) 12 ss_wide rfl ?_))
        go_ret
        exact ⟨by rw [E1.out]; rfl, ExtA hx⟩
      · have d1 : decide (order ≤ last) = false := by simpa using h1
        have e1 : decide (last < order) = true := by simp; omega
        rw [e1, Bool.true_and] at HB
        clear h1 e1
        by_cases h2 : events < 1
        · have d2 : decide (events < 1) = true := by simpa using h2
          have e1 : bookB 0 ss = false := by rw [HB.out, show decide (1 ≤ events) = false by simp; omega]; rfl
          have E1 := Lib.hid e1
          clear h2 HB e1
          go_wp2_with (first
            | (change wpList _ _ _ (⟨some 11, _, _, _, _, _⟩ :: _) _ _; refine wp_load_ss rfl (.tmp 10) rfl b (o + k * 12) rfl #[.int .i64 order, .int .i64 status, .int .i64 prior, .int .i64 cur, .int .i64 tax, .slice As n2 cs, .int .i64 paid, .int .i64 refunded, .int .i64 events, .int .i64 refused, .int .i64 stamp, .string who] rfl Hc.out ?_)
            | (change wpList _ _ _ (⟨none, .store _ (.tmp 5) _, _, _, _, _⟩ :: _) _ _; refine wpL_store_new rfl 77 (.tmp 5) (.tmp 11) rfl wr.heap.size 77 #[.int .i64 0, .int .i64 0, .int .i64 0, .int .i64 0, .int .i64 0, .slice none 0 0, .int .i64 0, .int .i64 0, .int .i64 0, .int .i64 0, .int .i64 0, .string ⟨#[]⟩] #[.int .i64 order, .int .i64 status, .int .i64 prior, .int .i64 cur, .int .i64 tax, .slice As n2 cs, .int .i64 paid, .int .i64 refunded, .int .i64 events, .int .i64 refused, .int .i64 stamp, .string who] rfl rfl rfl rfl (st_one' _ _ _ _ _ _ _ _ _ _ _ _ _ _) 12 ss_wide rfl ?_))
          go_ret
          exact ⟨by rw [E1.out]; rfl, ExtA hx⟩
        · have d2 : decide (events < 1) = false := by simpa using h2
          have e1 : decide (1 ≤ events) = true := by simp; omega
          rw [e1, Bool.true_and] at HB
          clear h2 e1
          cases v with
          | false =>
            have E1 := Lib.hid (show bookB 0 ss = false by rw [HB.out, Bool.false_and])
            clear HB
            go_wp2_with (first
              | (change wpList _ _ _ (⟨some 11, _, _, _, _, _⟩ :: _) _ _; refine wp_load_ss rfl (.tmp 10) rfl b (o + k * 12) rfl #[.int .i64 order, .int .i64 status, .int .i64 prior, .int .i64 cur, .int .i64 tax, .slice As n2 cs, .int .i64 paid, .int .i64 refunded, .int .i64 events, .int .i64 refused, .int .i64 stamp, .string who] rfl Hc.out ?_)
              | (change wpList _ _ _ (⟨none, .store _ (.tmp 5) _, _, _, _, _⟩ :: _) _ _; refine wpL_store_new rfl 77 (.tmp 5) (.tmp 11) rfl wr.heap.size 77 #[.int .i64 0, .int .i64 0, .int .i64 0, .int .i64 0, .int .i64 0, .slice none 0 0, .int .i64 0, .int .i64 0, .int .i64 0, .int .i64 0, .int .i64 0, .string ⟨#[]⟩] #[.int .i64 order, .int .i64 status, .int .i64 prior, .int .i64 cur, .int .i64 tax, .slice As n2 cs, .int .i64 paid, .int .i64 refunded, .int .i64 events, .int .i64 refused, .int .i64 stamp, .string who] rfl rfl rfl rfl (st_one' _ _ _ _ _ _ _ _ _ _ _ _ _ _) 12 ss_wide rfl ?_)
              | (go_at_call 117; (with_reducible refine (KV.out _ (by repeat (first | with_reducible exact Below.refl _ _ | with_reducible assumption | with_reducible refine ExtD ?_ | with_reducible refine ExtDN ?_ | with_reducible refine ExtA ?_ | (with_reducible refine ExtR ?_ ?_; (first | omega | (dsimp only; omega) | (simp; done) | (simp; omega))) | (with_reducible refine ExtS ?_ ?_; (first | omega | (dsimp only; omega) | (simp; done) | (simp; omega))) | with_reducible refine Ext.tr ?_ (by with_reducible assumption)))).mono ?_); rintro e w1 ⟨rfl, hx1⟩))
            go_ret
            exact ⟨by rw [E1.out]; rfl, (ExtA hx).tr hx1⟩
          | true =>
            rw [Bool.true_and] at HB
            go_wp2_with (first
              | (change wpList _ _ _ (⟨some 11, _, _, _, _, _⟩ :: _) _ _; refine wp_load_ss rfl (.tmp 10) rfl b (o + k * 12) rfl #[.int .i64 order, .int .i64 status, .int .i64 prior, .int .i64 cur, .int .i64 tax, .slice As n2 cs, .int .i64 paid, .int .i64 refunded, .int .i64 events, .int .i64 refused, .int .i64 stamp, .string who] rfl Hc.out ?_)
              | (change wpList _ _ _ (⟨none, .store _ (.tmp 5) _, _, _, _, _⟩ :: _) _ _; refine wpL_store_new rfl 77 (.tmp 5) (.tmp 11) rfl wr.heap.size 77 #[.int .i64 0, .int .i64 0, .int .i64 0, .int .i64 0, .int .i64 0, .slice none 0 0, .int .i64 0, .int .i64 0, .int .i64 0, .int .i64 0, .int .i64 0, .string ⟨#[]⟩] #[.int .i64 order, .int .i64 status, .int .i64 prior, .int .i64 cur, .int .i64 tax, .slice As n2 cs, .int .i64 paid, .int .i64 refunded, .int .i64 events, .int .i64 refused, .int .i64 stamp, .string who] rfl rfl rfl rfl (st_one' _ _ _ _ _ _ _ _ _ _ _ _ _ _) 12 ss_wide rfl ?_)
              | (go_at_call 117; (with_reducible refine (KV.out _ (by repeat (first | with_reducible exact Below.refl _ _ | with_reducible assumption | with_reducible refine ExtD ?_ | with_reducible refine ExtDN ?_ | with_reducible refine ExtA ?_ | (with_reducible refine ExtR ?_ ?_; (first | omega | (dsimp only; omega) | (simp; done) | (simp; omega))) | (with_reducible refine ExtS ?_ ?_; (first | omega | (dsimp only; omega) | (simp; done) | (simp; omega))) | with_reducible refine Ext.tr ?_ (by with_reducible assumption)))).mono ?_); rintro e w1 ⟨rfl, hx1⟩; have f0 : w1.cell? ⟨wr.heap.size, 0, none⟩ = some (.int .i64 order) := (BlkE (BlkN rfl) hx1).cell 0))
            go_roundw
            case rel => exact ⟨k + 1, order, by go_num, by rw [Hlen.out]; omega, rfl, HB.out, (ExtA hx).tr hx1⟩
            case measure => simp [intOf]; omega
    · obtain rfl : k = n := by omega
      have htk : ss.drop k = [] := List.drop_eq_nil_of_le (by rw [Hlen.out]; omega)
      rw [htk] at hB
      have E1 := Lib.hid (show bookB 0 ss = true from hB)
      clear hB
      go_wp2_with fail
      go_ret
      exact ⟨by rw [E1.out]; rfl, hx⟩
def BkSR (w : World) (n : Nat) (c13 : Value) (wr : World) : Prop := ∃ k : Nat, c13 = .int .i64 (k : Nat) ∧ k ≤ n ∧ Ext w wr
set_option maxRecDepth 100000 in
set_option maxHeartbeats 4000000 in
theorem bsame_any (ss : List St) (A B : Option Addr) (n c c2 : Nat) (w : World) (hr : SsRd w A n ss) (hr2 : SsRd w B n ss) (hn : n ≤ 4611686018427387904) (hs : SsSm ss) :
    Calls Tryz.prog 30 #[.slice A n c, .slice B n c2] w fun e w' => e = .returned (.bool true) ∧ Ext w w' := by
  have HR := Lib.hid hr
  have HR2 := Lib.hid hr2
  have HSm := Lib.hid hs
  have x1 : ((n : Int) != (n : Int)) = false := by simp
  clear hr hr2 hs
  go_enter Tryz.func30, Tryz.ntmps30
  go_wp2_with fail
  go_loopw [13] (fun c13 wr => BkSR w n c13 wr) (fun c13 _ => n - (intOf c13).toNat)
  case atStart => exact ⟨0, rfl, by omega, Ext.rfl' w⟩
  case round =>
    obtain ⟨k, rfl, hk, hx⟩ := hrel
    by_cases hlt : k < n
    · obtain ⟨b, o, s, As, cs, hsk, rfl, hc, hls⟩ := ss_at (HR.out.ext hx) hlt
      obtain ⟨b2, o2, s2, As2, cs2, hsk2, rfl, hc2, hls2⟩ := ss_at (HR2.out.ext hx) hlt
      obtain rfl : s2 = s := by rw [hsk] at hsk2; injection hsk2 with h; exact h.symm
      have hsm := HSm.out s2 (List.mem_of_getElem? hsk)
      have KS := Lib.hid fun W (hx2 : Ext wr W) => ssame_any s2 As As2 cs cs2 W (LsRd.ext hls hx2) (LsRd.ext hls2 hx2) (by have := hsm.1; omega)
      obtain ⟨order, status, prior, cur, tax, ls, paid, refunded, events, refused, stamp, who⟩ := s2
      obtain ⟨n2, hn2⟩ : ∃ n2, n2 = ls.length := ⟨_, rfl⟩
      have Hc : Hid (wr.rangeAt b (o + k * 12) (#[.int .i64 order, .int .i64 status, .int .i64 prior, .int .i64 cur, .int .i64 tax, .slice As n2 cs, .int .i64 paid, .int .i64 refunded, .int .i64 events, .int .i64 refused, .int .i64 stamp, .string who] : Array Value).toList) := Lib.hid (by rw [hn2]; exact hc)
      have Hc2 : Hid (wr.rangeAt b2 (o2 + k * 12) (#[.int .i64 order, .int .i64 status, .int .i64 prior, .int .i64 cur, .int .i64 tax, .slice As2 n2 cs2, .int .i64 paid, .int .i64 refunded, .int .i64 events, .int .i64 refused, .int .i64 stamp, .string who] : Array Value).toList) := Lib.hid (by rw [hn2]; exact hc2)
      unfold stcells at KS
      dsimp only at KS
      rw [← hn2] at KS
      clear hn2 hc hls hsm hsk hsk2 hc2 hls2
      go_upto_region 6 with fail
      refine wp_region_held_drew (S := fun w' => Ext wr w') (by kernel_rfl) (ExtD (Ext.rfl' wr)) (fun hS => ?_)
      refine takeQ 16 0 (.slice (some ⟨b, o, none⟩) n c) hS ?_
      refine takeQ 17 1 (.int .i64 (k : Nat)) hS ?_
      refine takeQ 18 2 (.pointer (some ⟨b, o + k * 12, none⟩)) hS ?_
      refine takeD (some 19) (i := 3) (oi := ⟨some 19, _, _, _, _, _⟩) (v := .agg #[.int .i64 order, .int .i64 status, .int .i64 prior, .int .i64 cur, .int .i64 tax, .slice As n2 cs, .int .i64 paid, .int .i64 refunded, .int .i64 events, .int .i64 refused, .int .i64 stamp, .string who]) rfl rfl (by kernel_rfl) (by kernel_rfl) (by kernel_rfl) (fun _ _ _ h => h) (yields_ss (by kernel_rfl) (.tmp 18) rfl b (o + k * 12) rfl #[.int .i64 order, .int .i64 status, .int .i64 prior, .int .i64 cur, .int .i64 tax, .slice As n2 cs, .int .i64 paid, .int .i64 refunded, .int .i64 events, .int .i64 refused, .int .i64 stamp, .string who] rfl (fun w' hw => range_ext Hc.out hw)) hS ?_; (try simp only [Act.put, List.setIfInBounds_toArray, List.set_cons_zero, List.set_cons_succ])
      refine takeQ 20 4 (.slice (some ⟨b2, o2, none⟩) n c2) hS ?_
      refine takeQ 21 5 (.int .i64 (k : Nat)) hS ?_
      refine takeQ 22 6 (.pointer (some ⟨b2, o2 + k * 12, none⟩)) hS ?_
      refine takeD (some 23) (i := 7) (oi := ⟨some 23, _, _, _, _, _⟩) (v := .agg #[.int .i64 order, .int .i64 status, .int .i64 prior, .int .i64 cur, .int .i64 tax, .slice As2 n2 cs2, .int .i64 paid, .int .i64 refunded, .int .i64 events, .int .i64 refused, .int .i64 stamp, .string who]) rfl rfl (by kernel_rfl) (by kernel_rfl) (by kernel_rfl) (fun _ _ _ h => h) (yields_ss (by kernel_rfl) (.tmp 22) rfl b2 (o2 + k * 12) rfl #[.int .i64 order, .int .i64 status, .int .i64 prior, .int .i64 cur, .int .i64 tax, .slice As2 n2 cs2, .int .i64 paid, .int .i64 refunded, .int .i64 events, .int .i64 refused, .int .i64 stamp, .string who] rfl (fun w' hw => range_ext Hc2.out hw)) hS ?_; (try simp only [Act.put, List.setIfInBounds_toArray, List.set_cons_zero, List.set_cons_succ])
      refine wpAnyH_ready (rs := [8]) (by kernel_rfl) (by simp) (AllReadyH.cons (o := ⟨some 24, _, _, _, _, _⟩) rfl (fun K hK => ?_) AllReadyH.nil)
      refine step_callG rfl (some 24) rfl 41 _ Tryz.func41 (by kernel_rfl) (by kernel_rfl) _ _ rfl #[.agg #[.int .i64 order, .int .i64 status, .int .i64 prior, .int .i64 cur, .int .i64 tax, .slice As n2 cs, .int .i64 paid, .int .i64 refunded, .int .i64 events, .int .i64 refused, .int .i64 stamp, .string who], .agg #[.int .i64 order, .int .i64 status, .int .i64 prior, .int .i64 cur, .int .i64 tax, .slice As2 n2 cs2, .int .i64 paid, .int .i64 refunded, .int .i64 events, .int .i64 refused, .int .i64 stamp, .string who]] (by first | rfl | simp [Act.eval, Act.put]) _ (KS.out _ hS) ?_; rintro e w1 ⟨rfl, hx1⟩; refine ⟨_, rfl, hK.out _ _ (Ext.tr hS hx1) ?_⟩; intro hS; clear hK; (try simp only [Act.put, List.setIfInBounds_toArray, List.set_cons_zero, List.set_cons_succ])
      refine takeQ 25 9 (.bool false) hS ?_
      refine wpAnyH_done (by kernel_rfl) ?_ _
      go_wp2_with fail
      go_roundw
      case rel => exact ⟨k + 1, by go_num, by omega, hx.tr hS⟩
      case measure => simp [intOf]; omega
    · obtain rfl : k = n := by omega
      go_wp2_with fail
      go_ret
      exact ⟨rfl, hx⟩
theorem book_drop {ss : List St} {k : Nat} {s : St} (hsk : ss[k]? = some s) : ss.drop k = s :: ss.drop (k + 1) := by
  have h1 := (List.getElem?_eq_some_iff.1 hsk)
  rw [List.drop_eq_getElem_cons h1.1, h1.2]
/-- The order ahead of place k. -/
def ordB (ss : List St) (k : Nat) : Int := if k = 0 then 0 else ((ss[k - 1]?).map (·.order)).getD 0
def BrvR (w : World) (ss : List St) (c6 : Value) (wr : World) : Prop :=
  ∃ k : Nat, c6 = .int .i64 (k : Nat) ∧ k ≤ ss.length ∧ bookB 0 ss = bookB (ordB ss k) (ss.drop k) ∧ Ext w wr
set_option maxRecDepth 100000 in
set_option maxHeartbeats 4000000 in
theorem rbvalid_any (ss : List St) (A : Option Addr) (n c : Nat) (w : World) (hr : SsRd w A n ss) (hn : n ≤ 4611686018427387904) (hs : SsSm ss) :
    Calls Tryz.prog 75 #[.slice A n c] w fun e w' => e = .returned (.bool (bookB 0 ss)) ∧ Ext w w' := by
  have hlen := hr.len
  have Hlen := Lib.hid hlen
  have HR := Lib.hid hr
  have HSm := Lib.hid hs
  clear hlen hr hs
  go_enter Tryz.func75, Tryz.ntmps75
  go_wp2_with fail
  go_loopw [6] (fun c6 wr => BrvR w ss c6 wr) (fun c6 _ => n - (intOf c6).toNat)
  case atStart => exact ⟨0, rfl, by omega, rfl, Ext.rfl' w⟩
  case round =>
    obtain ⟨k, rfl, hk, hB, hx⟩ := hrel
    rw [Hlen.out] at hk
    by_cases hlt : k < n
    · obtain ⟨b, o, s, As, cs, hsk, rfl, hc, hls⟩ := ss_at (HR.out.ext hx) hlt
      have hsm := HSm.out s (List.mem_of_getElem? hsk)
      have KV := Lib.hid fun W (hx2 : Ext wr W) => rvalid_any s As cs W (LsRd.ext hls hx2) (by have := hsm.1; omega) hsm.2
      have hB2 : bookB 0 ss = (decide (ordB ss k < s.order) && decide (1 ≤ s.events) && validB s && bookB s.order (ss.drop (k + 1))) := by rw [hB, book_drop hsk]; rfl
      have hord1 : ordB ss (k + 1) = s.order := by unfold ordB; rw [if_neg (by omega), show k + 1 - 1 = k by omega, hsk]; rfl
      have hv1 : validB s = true → 1 ≤ s.order := fun h => (valid_iff.1 h).order.1
      have Hpv : Hid (0 < k → ∃ p, ordB ss k = p ∧ wr.cell? ⟨b, o + (k - 1) * 12, none⟩ = some (.int .i64 p)) := Lib.hid fun h0 => by
        obtain ⟨b2, o2, s2, A2, c2, hsk2, hA2, hc2, -⟩ := ss_at (HR.out.ext hx) (show k - 1 < n by omega)
        injection hA2 with hA2
        injection hA2 with e1 e2
        subst e1 e2
        refine ⟨s2.order, by unfold ordB; rw [if_neg (by omega), hsk2]; rfl, ?_⟩
        have := hc2 0 _ rfl
        simpa using this
      have HB := Lib.hid hB2
      have Ho1 := Lib.hid hord1
      have Hv1 := Lib.hid hv1
      obtain ⟨order, status, prior, cur, tax, ls, paid, refunded, events, refused, stamp, who⟩ := s
      obtain ⟨n2, hn2⟩ : ∃ n2, n2 = ls.length := ⟨_, rfl⟩
      have hc' : wr.rangeAt b (o + k * 12) (#[.int .i64 order, .int .i64 status, .int .i64 prior, .int .i64 cur, .int .i64 tax, .slice As n2 cs, .int .i64 paid, .int .i64 refunded, .int .i64 events, .int .i64 refused, .int .i64 stamp, .string who] : Array Value).toList := by rw [hn2]; exact hc
      have Hc := Lib.hid hc'
      unfold stcells at KV
      dsimp only at KV HB Ho1 Hv1
      rw [← hn2] at KV
      generalize validB ⟨order, status, prior, cur, tax, ls, paid, refunded, events, refused, stamp, who⟩ = v at *
      clear hn2 hc hls hsm hsk hB hB2 hord1 hv1 hc'
      have F0 : Hid (wr.cell? ⟨b, o + k * 12, none⟩ = some (.int .i64 order)) := Lib.hid (by have := Hc.out 0 _ rfl; simpa using this)
      have F8 : Hid (wr.cell? ⟨b, o + k * 12 + 8, none⟩ = some (.int .i64 events)) := Lib.hid (Hc.out 8 _ rfl)
      have hkn : (k : Int) < (n : Int) := by omega
      cases v with
      | false =>
        have E1 := Lib.hid (show bookB 0 ss = false by rw [HB.out, Bool.and_false, Bool.false_and])
        clear HB
        go_upto_region 4 with fail
        -- REGION4F
        refine wp_region_held_drew (S := fun w' => Ext wr w') (by kernel_rfl) (ExtD (Ext.rfl' wr)) (fun hS => ?_)
        refine takeQ 9 0 (.slice (some ⟨b, o, none⟩) n c) hS ?_
        refine takeQ 10 1 (.int .i64 (k : Nat)) hS ?_
        refine takeQ 11 2 (.pointer (some ⟨b, o + k * 12, none⟩)) hS ?_
        refine takeD (some 12) (i := 3) (oi := ⟨some 12, _, _, _, _, _⟩) (v := .agg #[.int .i64 order, .int .i64 status, .int .i64 prior, .int .i64 cur, .int .i64 tax, .slice As n2 cs, .int .i64 paid, .int .i64 refunded, .int .i64 events, .int .i64 refused, .int .i64 stamp, .string who]) rfl rfl (by kernel_rfl) (by kernel_rfl) (by kernel_rfl) (fun _ _ _ h => h) (yields_ss (by kernel_rfl) (.tmp 11) rfl b (o + k * 12) rfl #[.int .i64 order, .int .i64 status, .int .i64 prior, .int .i64 cur, .int .i64 tax, .slice As n2 cs, .int .i64 paid, .int .i64 refunded, .int .i64 events, .int .i64 refused, .int .i64 stamp, .string who] rfl (fun w' hw => range_ext Hc.out hw)) hS ?_; (try simp only [Act.put, List.setIfInBounds_toArray, List.set_cons_zero, List.set_cons_succ])
        refine wpAnyH_ready (rs := [4]) (by kernel_rfl) (by simp) (AllReadyH.cons (o := ⟨some 13, _, _, _, _, _⟩) rfl (fun K hK => ?_) (AllReadyH.nil))
        refine step_callG rfl (some 13) rfl 114 _ Tryz.func114 (by kernel_rfl) (by kernel_rfl) _ _ rfl #[.agg #[.int .i64 order, .int .i64 status, .int .i64 prior, .int .i64 cur, .int .i64 tax, .slice As n2 cs, .int .i64 paid, .int .i64 refunded, .int .i64 events, .int .i64 refused, .int .i64 stamp, .string who]] (by first | rfl | simp [Act.eval, Act.put]) _ (KV.out _ hS) ?_; rintro e w1 ⟨rfl, hx1⟩; refine ⟨_, rfl, hK.out _ _ (Ext.tr hS hx1) ?_⟩; intro hS; clear hK; (try simp only [Act.put, List.setIfInBounds_toArray, List.set_cons_zero, List.set_cons_succ])
        refine takeQ 14 5 (.bool true) hS ?_
        refine takeQ 15 6 (.bool true) hS ?_
        refine takeN 16 7 hS ?_
        refine takeN 17 8 hS ?_
        refine takeN 18 9 hS ?_
        refine takeN 19 10 hS ?_
        refine takeN 20 11 hS ?_
        refine takeN 21 12 hS ?_
        refine takeQ 22 13 (.bool true) hS ?_
        refine takeQ 23 14 (.bool true) hS ?_
        refine takeN 24 15 hS ?_
        refine takeN 25 16 hS ?_
        refine takeN 26 17 hS ?_
        refine takeN 27 18 hS ?_
        refine takeN 28 19 hS ?_
        refine takeN 29 20 hS ?_
        refine takeN 30 21 hS ?_
        refine takeN 31 22 hS ?_
        refine takeN 32 23 hS ?_
        refine takeN 33 24 hS ?_
        refine takeN 34 25 hS ?_
        refine takeN 35 26 hS ?_
        refine takeN 36 27 hS ?_
        refine takeN 37 28 hS ?_
        refine takeN 38 29 hS ?_
        refine takeN 39 30 hS ?_
        refine takeQ 40 31 (.bool true) hS ?_
        refine wpAnyH_done (by kernel_rfl) ?_ _
        -- END4F
        go_wp2_with fail
        go_ret
        exact ⟨by rw [E1.out]; rfl, hx.tr hS⟩
      | true =>
        by_cases h2 : events < 1
        · have d2 : decide (events < 1) = true := by simpa using h2
          have E1 := Lib.hid (show bookB 0 ss = false by rw [HB.out, show decide (1 ≤ events) = false by simp; omega]; simp)
          clear HB h2
          go_upto_region 4 with fail
          -- REGION4E
          refine wp_region_held_drew (S := fun w' => Ext wr w') (by kernel_rfl) (ExtD (Ext.rfl' wr)) (fun hS => ?_)
          refine takeQ 9 0 (.slice (some ⟨b, o, none⟩) n c) hS ?_
          refine takeQ 10 1 (.int .i64 (k : Nat)) hS ?_
          refine takeQ 11 2 (.pointer (some ⟨b, o + k * 12, none⟩)) hS ?_
          refine takeD (some 12) (i := 3) (oi := ⟨some 12, _, _, _, _, _⟩) (v := .agg #[.int .i64 order, .int .i64 status, .int .i64 prior, .int .i64 cur, .int .i64 tax, .slice As n2 cs, .int .i64 paid, .int .i64 refunded, .int .i64 events, .int .i64 refused, .int .i64 stamp, .string who]) rfl rfl (by kernel_rfl) (by kernel_rfl) (by kernel_rfl) (fun _ _ _ h => h) (yields_ss (by kernel_rfl) (.tmp 11) rfl b (o + k * 12) rfl #[.int .i64 order, .int .i64 status, .int .i64 prior, .int .i64 cur, .int .i64 tax, .slice As n2 cs, .int .i64 paid, .int .i64 refunded, .int .i64 events, .int .i64 refused, .int .i64 stamp, .string who] rfl (fun w' hw => range_ext Hc.out hw)) hS ?_; (try simp only [Act.put, List.setIfInBounds_toArray, List.set_cons_zero, List.set_cons_succ])
          refine wpAnyH_ready (rs := [4]) (by kernel_rfl) (by simp) (AllReadyH.cons (o := ⟨some 13, _, _, _, _, _⟩) rfl (fun K hK => ?_) (AllReadyH.nil))
          refine step_callG rfl (some 13) rfl 114 _ Tryz.func114 (by kernel_rfl) (by kernel_rfl) _ _ rfl #[.agg #[.int .i64 order, .int .i64 status, .int .i64 prior, .int .i64 cur, .int .i64 tax, .slice As n2 cs, .int .i64 paid, .int .i64 refunded, .int .i64 events, .int .i64 refused, .int .i64 stamp, .string who]] (by first | rfl | simp [Act.eval, Act.put]) _ (KV.out _ hS) ?_; rintro e w1 ⟨rfl, hx1⟩; refine ⟨_, rfl, hK.out _ _ (Ext.tr hS hx1) ?_⟩; intro hS; clear hK; (try simp only [Act.put, List.setIfInBounds_toArray, List.set_cons_zero, List.set_cons_succ])
          refine takeQ 14 5 (.bool false) hS ?_
          refine takeQ 15 6 (.bool false) hS ?_
          refine takeQ 16 7 (.slice (some ⟨b, o, none⟩) n c) hS ?_
          refine takeQ 17 8 (.int .i64 (k : Nat)) hS ?_
          refine takeQ 18 9 (.pointer (some ⟨b, o + k * 12, none⟩)) hS ?_
          refine takeQ 19 10 (.pointer (some ⟨b, o + k * 12 + 8, none⟩)) hS ?_
          refine takeD (some 20) (i := 11) (oi := ⟨some 20, _, _, _, _, _⟩) (v := .int .i64 events) rfl rfl (by kernel_rfl) (by kernel_rfl) (by kernel_rfl) (fun _ _ _ h => h) (Or.inl ⟨by kernel_rfl, fun w' hw => by have hc0 := hw.cell F8.out; go_simp⟩) hS ?_; (try simp only [Act.put, List.setIfInBounds_toArray, List.set_cons_zero, List.set_cons_succ])
          refine takeQ 21 12 (.bool true) hS ?_
          refine takeQ 22 13 (.bool true) hS ?_
          refine takeQ 23 14 (.bool true) hS ?_
          refine takeN 24 15 hS ?_
          refine takeN 25 16 hS ?_
          refine takeN 26 17 hS ?_
          refine takeN 27 18 hS ?_
          refine takeN 28 19 hS ?_
          refine takeN 29 20 hS ?_
          refine takeN 30 21 hS ?_
          refine takeN 31 22 hS ?_
          refine takeN 32 23 hS ?_
          refine takeN 33 24 hS ?_
          refine takeN 34 25 hS ?_
          refine takeN 35 26 hS ?_
          refine takeN 36 27 hS ?_
          refine takeN 37 28 hS ?_
          refine takeN 38 29 hS ?_
          refine takeN 39 30 hS ?_
          refine takeQ 40 31 (.bool true) hS ?_
          refine wpAnyH_done (by kernel_rfl) ?_ _
          -- END4E
          go_wp2_with fail
          go_ret
          exact ⟨by rw [E1.out]; rfl, hx.tr hS⟩
        · have d2 : decide (events < 1) = false := by simpa using h2
          rw [show decide (1 ≤ events) = true by simp; omega, Bool.and_true, Bool.and_true] at HB
          clear h2
          by_cases hk0 : k = 0
          · have E1 := Lib.hid (show bookB 0 ss = bookB order (ss.drop (k + 1)) by
              rw [HB.out, show decide (ordB ss k < order) = true by rw [hk0]; simp [ordB]; have := Hv1.out rfl; omega, Bool.true_and])
            have d3 : decide ((0 : Int) < (k : Int)) = false := by simp; omega
            have Hk0 := Lib.hid hk0
            clear HB hk0
            go_upto_region 4 with fail
            -- REGION4Z
            refine wp_region_held_drew (S := fun w' => Ext wr w') (by kernel_rfl) (ExtD (Ext.rfl' wr)) (fun hS => ?_)
            refine takeQ 9 0 (.slice (some ⟨b, o, none⟩) n c) hS ?_
            refine takeQ 10 1 (.int .i64 (k : Nat)) hS ?_
            refine takeQ 11 2 (.pointer (some ⟨b, o + k * 12, none⟩)) hS ?_
            refine takeD (some 12) (i := 3) (oi := ⟨some 12, _, _, _, _, _⟩) (v := .agg #[.int .i64 order, .int .i64 status, .int .i64 prior, .int .i64 cur, .int .i64 tax, .slice As n2 cs, .int .i64 paid, .int .i64 refunded, .int .i64 events, .int .i64 refused, .int .i64 stamp, .string who]) rfl rfl (by kernel_rfl) (by kernel_rfl) (by kernel_rfl) (fun _ _ _ h => h) (yields_ss (by kernel_rfl) (.tmp 11) rfl b (o + k * 12) rfl #[.int .i64 order, .int .i64 status, .int .i64 prior, .int .i64 cur, .int .i64 tax, .slice As n2 cs, .int .i64 paid, .int .i64 refunded, .int .i64 events, .int .i64 refused, .int .i64 stamp, .string who] rfl (fun w' hw => range_ext Hc.out hw)) hS ?_; (try simp only [Act.put, List.setIfInBounds_toArray, List.set_cons_zero, List.set_cons_succ])
            refine wpAnyH_ready (rs := [4]) (by kernel_rfl) (by simp) (AllReadyH.cons (o := ⟨some 13, _, _, _, _, _⟩) rfl (fun K hK => ?_) (AllReadyH.nil))
            refine step_callG rfl (some 13) rfl 114 _ Tryz.func114 (by kernel_rfl) (by kernel_rfl) _ _ rfl #[.agg #[.int .i64 order, .int .i64 status, .int .i64 prior, .int .i64 cur, .int .i64 tax, .slice As n2 cs, .int .i64 paid, .int .i64 refunded, .int .i64 events, .int .i64 refused, .int .i64 stamp, .string who]] (by first | rfl | simp [Act.eval, Act.put]) _ (KV.out _ hS) ?_; rintro e w1 ⟨rfl, hx1⟩; refine ⟨_, rfl, hK.out _ _ (Ext.tr hS hx1) ?_⟩; intro hS; clear hK; (try simp only [Act.put, List.setIfInBounds_toArray, List.set_cons_zero, List.set_cons_succ])
            refine takeQ 14 5 (.bool false) hS ?_
            refine takeQ 15 6 (.bool false) hS ?_
            refine takeQ 16 7 (.slice (some ⟨b, o, none⟩) n c) hS ?_
            refine takeQ 17 8 (.int .i64 (k : Nat)) hS ?_
            refine takeQ 18 9 (.pointer (some ⟨b, o + k * 12, none⟩)) hS ?_
            refine takeQ 19 10 (.pointer (some ⟨b, o + k * 12 + 8, none⟩)) hS ?_
            refine takeD (some 20) (i := 11) (oi := ⟨some 20, _, _, _, _, _⟩) (v := .int .i64 events) rfl rfl (by kernel_rfl) (by kernel_rfl) (by kernel_rfl) (fun _ _ _ h => h) (Or.inl ⟨by kernel_rfl, fun w' hw => by have hc0 := hw.cell F8.out; go_simp⟩) hS ?_; (try simp only [Act.put, List.setIfInBounds_toArray, List.set_cons_zero, List.set_cons_succ])
            refine takeQ 21 12 (.bool false) hS ?_
            refine takeQ 22 13 (.bool false) hS ?_
            refine takeQ 23 14 (.bool false) hS ?_
            refine takeQ 24 15 (.int .i64 (k : Nat)) hS ?_
            refine takeD (some 25) (i := 16) (oi := ⟨some 25, _, _, _, _, _⟩) (v := .bool false) rfl rfl (by kernel_rfl) (by kernel_rfl) (by kernel_rfl) (fun _ _ _ h => h) (Or.inl ⟨by kernel_rfl, fun w' hw => by go_simp; exact Hk0.out⟩) hS ?_; (try simp only [Act.put, List.setIfInBounds_toArray, List.set_cons_zero, List.set_cons_succ])
            refine takeQ 26 17 (.bool false) hS ?_
            refine takeN 27 18 hS ?_
            refine takeN 28 19 hS ?_
            refine takeN 29 20 hS ?_
            refine takeN 30 21 hS ?_
            refine takeN 31 22 hS ?_
            refine takeN 32 23 hS ?_
            refine takeN 33 24 hS ?_
            refine takeN 34 25 hS ?_
            refine takeN 35 26 hS ?_
            refine takeN 36 27 hS ?_
            refine takeN 37 28 hS ?_
            refine takeN 38 29 hS ?_
            refine takeQ 39 30 (.bool false) hS ?_
            refine takeQ 40 31 (.bool false) hS ?_
            refine wpAnyH_done (by kernel_rfl) ?_ _
            -- END4Z
            go_wp2_with fail
            go_roundw
            case rel => exact ⟨k + 1, by go_num, by rw [Hlen.out]; omega, by rw [E1.out, Ho1.out], hx.tr hS⟩
            case measure => simp [intOf]; omega
          · obtain ⟨p, hp, hcp⟩ := Hpv.out (by omega)
            obtain ⟨k0, hk0e⟩ : ∃ k0, k0 = k - 1 := ⟨_, rfl⟩
            rw [← hk0e] at hcp
            have FP := Lib.hid hcp
            have d3 : decide ((0 : Int) < (k : Int)) = true := by simp; omega
            have ek : ((k : Int) - 1) = (k0 : Int) := by omega
            have ew : wrap64 ((k : Int) - 1) = (k0 : Int) := by unfold wrap64; omega
            have ei : IntKind.i64.wrap ((k : Int) - 1) = (k0 : Int) := by rw [IntKind.wrap_i64]; omega
            have hk0n : (k0 : Int) < (n : Int) := by omega
            have Hk0 : Hid (0 < k) := Lib.hid (by omega)
            have Ew0 : Hid (IntKind.i64.wrap (k0 : Int) = (k0 : Int)) := Lib.hid (by rw [IntKind.wrap_i64]; omega)
            rw [hp] at HB
            clear hk0 hk0e hcp hp
            by_cases h4 : order ≤ p
            · have d4 : decide (order ≤ p) = true := by simpa using h4
              have E1 := Lib.hid (show bookB 0 ss = false by rw [HB.out, show decide (p < order) = false by simp; omega]; simp)
              clear HB h4
              go_upto_region 4 with fail
              -- REGION4L
              refine wp_region_held_drew (S := fun w' => Ext wr w') (by kernel_rfl) (ExtD (Ext.rfl' wr)) (fun hS => ?_)
              refine takeQ 9 0 (.slice (some ⟨b, o, none⟩) n c) hS ?_
              refine takeQ 10 1 (.int .i64 (k : Nat)) hS ?_
              refine takeQ 11 2 (.pointer (some ⟨b, o + k * 12, none⟩)) hS ?_
              refine takeD (some 12) (i := 3) (oi := ⟨some 12, _, _, _, _, _⟩) (v := .agg #[.int .i64 order, .int .i64 status, .int .i64 prior, .int .i64 cur, .int .i64 tax, .slice As n2 cs, .int .i64 paid, .int .i64 refunded, .int .i64 events, .int .i64 refused, .int .i64 stamp, .string who]) rfl rfl (by kernel_rfl) (by kernel_rfl) (by kernel_rfl) (fun _ _ _ h => h) (yields_ss (by kernel_rfl) (.tmp 11) rfl b (o + k * 12) rfl #[.int .i64 order, .int .i64 status, .int .i64 prior, .int .i64 cur, .int .i64 tax, .slice As n2 cs, .int .i64 paid, .int .i64 refunded, .int .i64 events, .int .i64 refused, .int .i64 stamp, .string who] rfl (fun w' hw => range_ext Hc.out hw)) hS ?_; (try simp only [Act.put, List.setIfInBounds_toArray, List.set_cons_zero, List.set_cons_succ])
              refine wpAnyH_ready (rs := [4]) (by kernel_rfl) (by simp) (AllReadyH.cons (o := ⟨some 13, _, _, _, _, _⟩) rfl (fun K hK => ?_) (AllReadyH.nil))
              refine step_callG rfl (some 13) rfl 114 _ Tryz.func114 (by kernel_rfl) (by kernel_rfl) _ _ rfl #[.agg #[.int .i64 order, .int .i64 status, .int .i64 prior, .int .i64 cur, .int .i64 tax, .slice As n2 cs, .int .i64 paid, .int .i64 refunded, .int .i64 events, .int .i64 refused, .int .i64 stamp, .string who]] (by first | rfl | simp [Act.eval, Act.put]) _ (KV.out _ hS) ?_; rintro e w1 ⟨rfl, hx1⟩; refine ⟨_, rfl, hK.out _ _ (Ext.tr hS hx1) ?_⟩; intro hS; clear hK; (try simp only [Act.put, List.setIfInBounds_toArray, List.set_cons_zero, List.set_cons_succ])
              refine takeQ 14 5 (.bool false) hS ?_
              refine takeQ 15 6 (.bool false) hS ?_
              refine takeQ 16 7 (.slice (some ⟨b, o, none⟩) n c) hS ?_
              refine takeQ 17 8 (.int .i64 (k : Nat)) hS ?_
              refine takeQ 18 9 (.pointer (some ⟨b, o + k * 12, none⟩)) hS ?_
              refine takeQ 19 10 (.pointer (some ⟨b, o + k * 12 + 8, none⟩)) hS ?_
              refine takeD (some 20) (i := 11) (oi := ⟨some 20, _, _, _, _, _⟩) (v := .int .i64 events) rfl rfl (by kernel_rfl) (by kernel_rfl) (by kernel_rfl) (fun _ _ _ h => h) (Or.inl ⟨by kernel_rfl, fun w' hw => by have hc0 := hw.cell F8.out; go_simp⟩) hS ?_; (try simp only [Act.put, List.setIfInBounds_toArray, List.set_cons_zero, List.set_cons_succ])
              refine takeQ 21 12 (.bool false) hS ?_
              refine takeQ 22 13 (.bool false) hS ?_
              refine takeQ 23 14 (.bool false) hS ?_
              refine takeQ 24 15 (.int .i64 (k : Nat)) hS ?_
              refine takeD (some 25) (i := 16) (oi := ⟨some 25, _, _, _, _, _⟩) (v := .bool true) rfl rfl (by kernel_rfl) (by kernel_rfl) (by kernel_rfl) (fun _ _ _ h => h) (Or.inl ⟨by kernel_rfl, fun w' hw => by go_simp; exact Hk0.out⟩) hS ?_; (try simp only [Act.put, List.setIfInBounds_toArray, List.set_cons_zero, List.set_cons_succ])
              refine takeQ 26 17 (.bool true) hS ?_
              refine takeQ 27 18 (.slice (some ⟨b, o, none⟩) n c) hS ?_
              refine takeQ 28 19 (.int .i64 (k : Nat)) hS ?_
              refine takeQ 29 20 (.pointer (some ⟨b, o + k * 12, none⟩)) hS ?_
              refine takeQ 30 21 (.pointer (some ⟨b, o + k * 12, none⟩)) hS ?_
              refine takeD (some 31) (i := 22) (oi := ⟨some 31, _, _, _, _, _⟩) (v := .int .i64 order) rfl rfl (by kernel_rfl) (by kernel_rfl) (by kernel_rfl) (fun _ _ _ h => h) (Or.inl ⟨by kernel_rfl, fun w' hw => by have hc0 := hw.cell F0.out; go_simp⟩) hS ?_; (try simp only [Act.put, List.setIfInBounds_toArray, List.set_cons_zero, List.set_cons_succ])
              refine takeQ 32 23 (.slice (some ⟨b, o, none⟩) n c) hS ?_
              refine takeQ 33 24 (.int .i64 (k : Nat)) hS ?_
              refine takeD (some 34) (i := 25) (oi := ⟨some 34, _, _, _, _, _⟩) (v := .int .i64 (k0 : Nat)) rfl rfl (by kernel_rfl) (by kernel_rfl) (by kernel_rfl) (fun _ _ _ h => h) (Or.inl ⟨by kernel_rfl, fun w' hw => by go_simp; exact Ew0.out⟩) hS ?_; (try simp only [Act.put, List.setIfInBounds_toArray, List.set_cons_zero, List.set_cons_succ])
              refine takeQ 35 26 (.pointer (some ⟨b, o + k0 * 12, none⟩)) hS ?_
              refine takeQ 36 27 (.pointer (some ⟨b, o + k0 * 12, none⟩)) hS ?_
              refine takeD (some 37) (i := 28) (oi := ⟨some 37, _, _, _, _, _⟩) (v := .int .i64 p) rfl rfl (by kernel_rfl) (by kernel_rfl) (by kernel_rfl) (fun _ _ _ h => h) (Or.inl ⟨by kernel_rfl, fun w' hw => by have hc0 := hw.cell FP.out; go_simp⟩) hS ?_; (try simp only [Act.put, List.setIfInBounds_toArray, List.set_cons_zero, List.set_cons_succ])
              refine takeQ 38 29 (.bool true) hS ?_
              refine takeQ 39 30 (.bool true) hS ?_
              refine takeQ 40 31 (.bool true) hS ?_
              refine wpAnyH_done (by kernel_rfl) ?_ _
              -- END4L
              go_wp2_with fail
              go_ret
              exact ⟨by rw [E1.out]; rfl, hx.tr hS⟩
            · have d4 : decide (order ≤ p) = false := by simpa using h4
              have E1 := Lib.hid (show bookB 0 ss = bookB order (ss.drop (k + 1)) by rw [HB.out, show decide (p < order) = true by simp; omega]; simp)
              clear HB h4
              go_upto_region 4 with fail
              -- REGION4G
              refine wp_region_held_drew (S := fun w' => Ext wr w') (by kernel_rfl) (ExtD (Ext.rfl' wr)) (fun hS => ?_)
              refine takeQ 9 0 (.slice (some ⟨b, o, none⟩) n c) hS ?_
              refine takeQ 10 1 (.int .i64 (k : Nat)) hS ?_
              refine takeQ 11 2 (.pointer (some ⟨b, o + k * 12, none⟩)) hS ?_
              refine takeD (some 12) (i := 3) (oi := ⟨some 12, _, _, _, _, _⟩) (v := .agg #[.int .i64 order, .int .i64 status, .int .i64 prior, .int .i64 cur, .int .i64 tax, .slice As n2 cs, .int .i64 paid, .int .i64 refunded, .int .i64 events, .int .i64 refused, .int .i64 stamp, .string who]) rfl rfl (by kernel_rfl) (by kernel_rfl) (by kernel_rfl) (fun _ _ _ h => h) (yields_ss (by kernel_rfl) (.tmp 11) rfl b (o + k * 12) rfl #[.int .i64 order, .int .i64 status, .int .i64 prior, .int .i64 cur, .int .i64 tax, .slice As n2 cs, .int .i64 paid, .int .i64 refunded, .int .i64 events, .int .i64 refused, .int .i64 stamp, .string who] rfl (fun w' hw => range_ext Hc.out hw)) hS ?_; (try simp only [Act.put, List.setIfInBounds_toArray, List.set_cons_zero, List.set_cons_succ])
              refine wpAnyH_ready (rs := [4]) (by kernel_rfl) (by simp) (AllReadyH.cons (o := ⟨some 13, _, _, _, _, _⟩) rfl (fun K hK => ?_) (AllReadyH.nil))
              refine step_callG rfl (some 13) rfl 114 _ Tryz.func114 (by kernel_rfl) (by kernel_rfl) _ _ rfl #[.agg #[.int .i64 order, .int .i64 status, .int .i64 prior, .int .i64 cur, .int .i64 tax, .slice As n2 cs, .int .i64 paid, .int .i64 refunded, .int .i64 events, .int .i64 refused, .int .i64 stamp, .string who]] (by first | rfl | simp [Act.eval, Act.put]) _ (KV.out _ hS) ?_; rintro e w1 ⟨rfl, hx1⟩; refine ⟨_, rfl, hK.out _ _ (Ext.tr hS hx1) ?_⟩; intro hS; clear hK; (try simp only [Act.put, List.setIfInBounds_toArray, List.set_cons_zero, List.set_cons_succ])
              refine takeQ 14 5 (.bool false) hS ?_
              refine takeQ 15 6 (.bool false) hS ?_
              refine takeQ 16 7 (.slice (some ⟨b, o, none⟩) n c) hS ?_
              refine takeQ 17 8 (.int .i64 (k : Nat)) hS ?_
              refine takeQ 18 9 (.pointer (some ⟨b, o + k * 12, none⟩)) hS ?_
              refine takeQ 19 10 (.pointer (some ⟨b, o + k * 12 + 8, none⟩)) hS ?_
              refine takeD (some 20) (i := 11) (oi := ⟨some 20, _, _, _, _, _⟩) (v := .int .i64 events) rfl rfl (by kernel_rfl) (by kernel_rfl) (by kernel_rfl) (fun _ _ _ h => h) (Or.inl ⟨by kernel_rfl, fun w' hw => by have hc0 := hw.cell F8.out; go_simp⟩) hS ?_; (try simp only [Act.put, List.setIfInBounds_toArray, List.set_cons_zero, List.set_cons_succ])
              refine takeQ 21 12 (.bool false) hS ?_
              refine takeQ 22 13 (.bool false) hS ?_
              refine takeQ 23 14 (.bool false) hS ?_
              refine takeQ 24 15 (.int .i64 (k : Nat)) hS ?_
              refine takeD (some 25) (i := 16) (oi := ⟨some 25, _, _, _, _, _⟩) (v := .bool true) rfl rfl (by kernel_rfl) (by kernel_rfl) (by kernel_rfl) (fun _ _ _ h => h) (Or.inl ⟨by kernel_rfl, fun w' hw => by go_simp; exact Hk0.out⟩) hS ?_; (try simp only [Act.put, List.setIfInBounds_toArray, List.set_cons_zero, List.set_cons_succ])
              refine takeQ 26 17 (.bool true) hS ?_
              refine takeQ 27 18 (.slice (some ⟨b, o, none⟩) n c) hS ?_
              refine takeQ 28 19 (.int .i64 (k : Nat)) hS ?_
              refine takeQ 29 20 (.pointer (some ⟨b, o + k * 12, none⟩)) hS ?_
              refine takeQ 30 21 (.pointer (some ⟨b, o + k * 12, none⟩)) hS ?_
              refine takeD (some 31) (i := 22) (oi := ⟨some 31, _, _, _, _, _⟩) (v := .int .i64 order) rfl rfl (by kernel_rfl) (by kernel_rfl) (by kernel_rfl) (fun _ _ _ h => h) (Or.inl ⟨by kernel_rfl, fun w' hw => by have hc0 := hw.cell F0.out; go_simp⟩) hS ?_; (try simp only [Act.put, List.setIfInBounds_toArray, List.set_cons_zero, List.set_cons_succ])
              refine takeQ 32 23 (.slice (some ⟨b, o, none⟩) n c) hS ?_
              refine takeQ 33 24 (.int .i64 (k : Nat)) hS ?_
              refine takeD (some 34) (i := 25) (oi := ⟨some 34, _, _, _, _, _⟩) (v := .int .i64 (k0 : Nat)) rfl rfl (by kernel_rfl) (by kernel_rfl) (by kernel_rfl) (fun _ _ _ h => h) (Or.inl ⟨by kernel_rfl, fun w' hw => by go_simp; exact Ew0.out⟩) hS ?_; (try simp only [Act.put, List.setIfInBounds_toArray, List.set_cons_zero, List.set_cons_succ])
              refine takeQ 35 26 (.pointer (some ⟨b, o + k0 * 12, none⟩)) hS ?_
              refine takeQ 36 27 (.pointer (some ⟨b, o + k0 * 12, none⟩)) hS ?_
              refine takeD (some 37) (i := 28) (oi := ⟨some 37, _, _, _, _, _⟩) (v := .int .i64 p) rfl rfl (by kernel_rfl) (by kernel_rfl) (by kernel_rfl) (fun _ _ _ h => h) (Or.inl ⟨by kernel_rfl, fun w' hw => by have hc0 := hw.cell FP.out; go_simp⟩) hS ?_; (try simp only [Act.put, List.setIfInBounds_toArray, List.set_cons_zero, List.set_cons_succ])
              refine takeQ 38 29 (.bool false) hS ?_
              refine takeQ 39 30 (.bool false) hS ?_
              refine takeQ 40 31 (.bool false) hS ?_
              refine wpAnyH_done (by kernel_rfl) ?_ _
              -- END4G
              go_wp2_with fail
              go_roundw
              case rel => exact ⟨k + 1, by go_num, by rw [Hlen.out]; omega, by rw [E1.out, Ho1.out], hx.tr hS⟩
              case measure => simp [intOf]; omega
    · obtain rfl : k = n := by omega
      have htk : ss.drop k = [] := List.drop_eq_nil_of_le (by rw [Hlen.out]; omega)
      rw [htk] at hB
      have E1 := Lib.hid (show bookB 0 ss = true from hB)
      clear hB
      go_wp2_with fail
      go_ret
      exact ⟨by rw [E1.out]; rfl, hx⟩
end Go.Proofs.YtjajbbgebblalaaGreatDoor
