/-
  The document's disk: change, a step on a file that is there.
-/
import Derived.Test.YtdoaniimfhpjhaaRfD
import Derived.Test.YtdoaniimfhpjhaaHand
import Derived.Deep.CutRange
namespace Go.Proofs.Ytdoaniimfhpjhaa
open Go.RowKit
set_option linter.unusedVariables false
set_option linter.unusedSimpArgs false
theorem fil_size (nm : ByteArray) (A : Option Addr) (n c : Nat) (s : Int) : (#[.string nm, .slice A n c, .int .i64 s] : Array Value).size = 3 := rfl
theorem fil_one (nm : ByteArray) (A : Option Addr) (n c : Nat) (s : Int) : ∀ v ∈ (#[.string nm, .slice A n c, .int .i64 s] : Array Value).toList, v.oneCell' = true := by
  intro v hv
  simp at hv
  rcases hv with rfl | rfl | rfl <;> rfl
theorem own_setT {w : World} {base g i : Nat} {e t : TypeId} {s n : Nat} {v u : Value} {xs : List Value} {cs : Array Value} (h : w.ownsRow base e s v n xs) (hb : Blk w g t cs) (ht : t ≠ e) : (w.setCell ⟨g, i, none⟩ u).ownsRow base e s v n xs := by
  refine own_heap h fun k hk => Below.heap_setCell w ⟨g, i, none⟩ u k (fun hc => ?_)
  rcases h.2 with ⟨rfl, _⟩ | ⟨g2, cap, cur, rfl, _, hg2, _⟩
  · cases hk
  · simp only [Value.ownBlock, Option.some.injEq] at hk
    subst hk
    rw [hc] at hg2
    have hb2 : w.heap[g]? = some (.cells cs t (0, 0)) := hb
    rw [hb2] at hg2
    injection hg2 with hg2
    injection hg2 with _ hg2
    exact ht hg2
theorem step_skip {P : Program} {w : World} {ops : Array Oper} {o : Oper} {a : Act} {K : Act → World → Prop} {Q : Exit → Act → World → Prop} {E : Prop} (hgd : o.guard = none) (d : Option Tmp) (hd : o.dst = d) (w2 : World)
    (hr : (execOp a.eval o).run P w = .ok .skip w2) (hK : K (a.put d undef) w2) : if Region.wanted o (yielded ops a.tmps) = true then Oper.wp P o a w K Q else E := by
  subst hd
  have hwt : Region.wanted o (yielded ops a.tmps) = true := by simp [Region.wanted, hgd]
  rw [if_pos hwt]
  unfold Oper.wp
  rw [hr]
  exact hK
theorem step_appendG {ops : Array Oper} {o : Oper} {a : Act} {w : World} {K : Act → World → Prop} {Q : Exit → Act → World → Prop} {E : Prop} (hgd : o.guard = none) (d : Option Tmp) (hd : o.dst = d) (s x : Operand)
    (ho : o.op = .call { callee := .builtin .append, args := #[s, x], argTypes := #[31, 31] }) (base : Nat) (hbase : base ≤ w.heap.size)
    {A0 : Option Addr} {n0 c0 : Nat} {l : List UInt8} (hs : a.eval s = .slice A0 n0 c0) (hown : w.ownsRow base 5 1 (.slice A0 n0 c0) n0 (u8s l))
    {A : Option Addr} {m c : Nat} {news : List UInt8} (hx : a.eval x = .slice A m c) (hr : Rd w A m (u8s news)) (hb : n0 + m ≤ 140737488355328)
    (hK : ∀ A' c' w', w'.ownsRow base 5 1 (.slice A' (n0 + m) c') (n0 + m) (u8s (l ++ news)) → w.grownBy w' (Value.slice A0 n0 c0).ownBlock → K (a.put d (.slice A' (n0 + m) c')) w') :
    if Region.wanted o (yielded ops a.tmps) = true then Oper.wp Try.prog o a w K Q else E := by
  subst hd
  have hw : Region.wanted o (yielded ops a.tmps) = true := by simp [Region.wanted, hgd]
  rw [if_pos hw]
  obtain ⟨v', w', hrun, hown', hg, _⟩ := run_append_rd (P := Try.prog) base 31 o.type 5 _ 1 1 Try.underlying31 el_u8 _ n0 _ hown A m c _ hr.toN (one_u8 _) (by simp only [maxLen]; omega) (by omega) hbase
  obtain ⟨A', c', rfl⟩ := own_slice hown'
  rw [← u8s_app] at hown'
  unfold Oper.wp execOp
  simp only [ho, resolve, invoke, builtin, Sem.run_bind, Sem.run_pure, Result.andThen_ok, List.map_toArray, List.map_cons, List.map_nil, hs, hx, hrun]
  exact hK A' c' w' hown' hg
theorem takeH_mem {x : HV} {l : List HV} {nm : ByteArray} (h : x ∈ takeH l nm) : x ∈ l := (List.mem_filter.1 h).1
theorem takeH_len (l : List HV) (nm : ByteArray) : (takeH l nm).length ≤ l.length := List.length_filter_le _ _
set_option maxRecDepth 100000 in
set_option maxHeartbeats 8000000 in
theorem rchangeK (K : Int) (hK : K = 1 ∨ K = 2 ∨ K = 3 ∨ K = 4 ∨ K = 5) (A : Option Addr) (n c B0 : Nat) (hs0 : List HV) (r1 r2 r4 r5 : Int) (r3 : Bool) (nm tg : ByteArray) (Bb : Option Addr) (bl bc : Nat) (bs : List UInt8) (N M : Int) (AK : Option Addr) (kl kc : Nat) (keep : List Int) (w : World) (hr : OwnFl w B0 A n c hs0) (hB : B0 ≤ w.heap.size) (hn : n ≤ 700)
    (k : Nat) (f : FV) (ha : atI (hs0.map (·.1)) nm = (k : Nat)) (hf : (hs0.map (·.1))[k]? = some f) (hnm : f.name = nm) (hok : FvOk f) (hbs : Rd w Bb bl (u8s bs)) (hbl : K = 1 → bl ≤ 140737488355328 - 67108864) (hN : K = 5 → 0 ≤ N ∧ N ≤ (f.data.length : Nat)) :
    Calls Try.prog 30 #[.agg #[.slice A n c, .int .i64 r1, .int .i64 r2, .bool r3, .int .i64 r4, .int .i64 r5], .agg #[.int .i64 K, .string nm, .string tg, .slice Bb bl bc, .int .i64 N, .int .i64 M, .slice AK kl kc]] w (ChPost w B0 A hs0 (chV (hs0.map (·.1)) f ⟨K, nm, tg, bs, N, M, keep⟩) r1 r2 r4 r5 r3) := by
  have HR := Lib.hid hr
  have hl0 := hr.len
  have hkn : k < n := by have := (List.getElem?_eq_some_iff.1 hf).1; rw [List.length_map] at this; omega
  obtain ⟨b, o, f2, Af, cf, hfk, rfl, hc0, hof⟩ := ownfl_at hr hkn
  have hf2 : f2 = f := by
    rw [List.getElem?_map, hfk] at hf
    injection hf
  subst hf2
  have hcf := own_le' hof
  have Hfk := Lib.hid hfk
  have Hha := Lib.hid ha
  obtain ⟨nm', fb, sf⟩ := f2
  dsimp only at hnm hok hof hcf hN
  subst hnm
  unfold FvOk at hok
  dsimp only at hok
  obtain ⟨n0, hn0⟩ : ∃ n0, n0 = fb.length := ⟨_, rfl⟩
  have Hn0 := Lib.hid hn0
  have hcc : w.rangeAt b (o + k * 3) [.string nm', .slice Af n0 cf, .int .i64 sf] := by rw [hn0]; exact hc0
  rw [← hn0] at hok hcf hN
  have Hof := Lib.hid hof
  have HBS := Lib.hid hbs
  have KA := Lib.hid fun W (hx : Ext w W) => rat_any (some ⟨b, o, none⟩) n c (hs0.map (·.1)) r1 r2 r4 r5 r3 nm' W (hr.ext hx).rd (by simp only [maxLen]; omega)
  rw [ha] at KA
  have KT := Lib.hid fun W (hx : Ext w W) => rtake_any (some ⟨b, o, none⟩) n c hs0 nm' W (RdN.of_own (hr.ext hx).1) (by omega)
  unfold GaveH at KT
  obtain ⟨tl, htl⟩ : ∃ tl, tl = (takeH hs0 nm').length := ⟨_, rfl⟩
  have htn : tl ≤ 700 := by rw [htl]; exact Nat.le_trans (takeH_len _ _) (by omega)
  rw [← htl] at KT
  have Htl := Lib.hid htl
  have HCC := Lib.hid hcc
  have K0 : (K == 0) = false := by simp; omega
  clear hr hl0 hfk hc0 hof hf ha hn0 hcc hbs htl
  go_enter Try.func30, Try.ntmps30
  go_upto_region 4 with fail
  obtain ⟨W1, hW1⟩ : ∃ W1, W1 = ((w.alloc (.cells #[.slice (some ⟨b, o, none⟩) n c, .int .i64 r1, .int .i64 r2, .bool r3, .int .i64 r4, .int .i64 r5] 28)).alloc (.cells #[.int .i64 K, .string nm', .string tg, .slice Bb bl bc, .int .i64 N, .int .i64 M, .slice AK kl kc] 34)).alloc (.cells #[.slice none 0 0, .int .i64 0, .int .i64 0, .bool false, .int .i64 0, .int .i64 0] 28) := ⟨_, rfl⟩
  have B1 : Hid (Blk W1 w.heap.size 28 #[.slice (some ⟨b, o, none⟩) n c, .int .i64 r1, .int .i64 r2, .bool r3, .int .i64 r4, .int .i64 r5]) := Lib.hid (by rw [hW1]; exact BlkA (BlkA (BlkN rfl)))
  have B2 : Hid (Blk W1 (w.heap.size + 1 + 1) 28 #[.slice none 0 0, .int .i64 0, .int .i64 0, .bool false, .int .i64 0, .int .i64 0]) := Lib.hid (by rw [hW1]; exact BlkN (by simp))
  have BO : Hid (Blk W1 (w.heap.size + 1) 34 #[.int .i64 K, .string nm', .string tg, .slice Bb bl bc, .int .i64 N, .int .i64 M, .slice AK kl kc]) := Lib.hid (by rw [hW1]; exact BlkA (BlkN (by simp)))
  have HX1 : Hid (Ext w W1) := Lib.hid (by rw [hW1]; exact ExtA (ExtA (ExtA (Ext.rfl' w))))
  have hz1 : Hid (w.heap.size + 1 + 1 < W1.heap.size) := Lib.hid B2.out.lt
  rw [← hW1]
  clear hW1
  go_cut [5] (fun v5 wc => ∃ g5, v5 = .pointer (some ⟨g5, 0, none⟩) ∧ W1.heap.size ≤ g5 ∧ Ext W1 wc ∧ Blk wc g5 49 #[.string nm', .slice Af n0 cf, .int .i64 sf])
  case first =>
    have k0 := B1.out.cell 0
    have k1 := B1.out.cell 1
    have k2 := B1.out.cell 2
    have k3 := B1.out.cell 3
    have k4 := B1.out.cell 4
    have k5 := B1.out.cell 5
    have ko := BO.out.cell 1
    have hc := range_ext HCC.out HX1.out
    have e0 := hc 0 _ rfl
    have e1 := hc 1 _ rfl
    have e2 := hc 2 _ rfl
    simp only [Nat.add_zero] at e0
    have KA1 := Lib.hid fun W (hx : Ext W1 W) => KA.out W (HX1.out.tr hx)
    clear KA KT HBS Hof HCC HR Hfk hN K0 hK
    clear hc B1 B2 BO HX1 hz1
    -- REGION4
    refine wp_region_held_drew (S := fun w' => Ext W1 w') (by kernel_rfl) (ExtD (Ext.rfl' _)) (fun hS => ?_)
    refine takeD (some 18) (i := 0) (oi := ⟨some 18, _, _, _, _, _⟩) (v := .pointer (some ⟨w.heap.size, 0, none⟩)) rfl rfl (by kernel_rfl) (by kernel_rfl) (by kernel_rfl) (fun _ _ _ h => h) (Or.inl ⟨by kernel_rfl, fun w hw => by go_simp⟩) hS ?_; (try simp only [Act.put, List.setIfInBounds_toArray, List.set_cons_zero, List.set_cons_succ])
    refine takeD (some 19) (i := 1) (oi := ⟨some 19, _, _, _, _, _⟩) (v := .slice (some ⟨b, o, none⟩) n c) rfl rfl (by kernel_rfl) (by kernel_rfl) (by kernel_rfl) (fun _ _ _ h => h) (Or.inl ⟨by kernel_rfl, fun w hw => by have hc0 := Ext.cell hw k0; go_simp⟩) hS ?_; (try simp only [Act.put, List.setIfInBounds_toArray, List.set_cons_zero, List.set_cons_succ])
    refine takeD (some 20) (i := 2) (oi := ⟨some 20, _, _, _, _, _⟩) (v := .agg #[.slice (some ⟨b, o, none⟩) n c, .int .i64 r1, .int .i64 r2, .bool r3, .int .i64 r4, .int .i64 r5]) rfl rfl (by kernel_rfl) (by kernel_rfl) (by kernel_rfl) (fun _ _ _ h => h) (Or.inl ⟨by kernel_rfl, fun w hw => by have hc0 := Ext.cell hw k0; have hc1 := Ext.cell hw k1; have hc2 := Ext.cell hw k2; have hc3 := Ext.cell hw k3; have hc4 := Ext.cell hw k4; have hc5 := Ext.cell hw k5; go_simp⟩) hS ?_; (try simp only [Act.put, List.setIfInBounds_toArray, List.set_cons_zero, List.set_cons_succ])
    refine takeD (some 21) (i := 3) (oi := ⟨some 21, _, _, _, _, _⟩) (v := .pointer (some ⟨w.heap.size + 1, 1, none⟩)) rfl rfl (by kernel_rfl) (by kernel_rfl) (by kernel_rfl) (fun _ _ _ h => h) (Or.inl ⟨by kernel_rfl, fun w hw => by go_simp⟩) hS ?_; (try simp only [Act.put, List.setIfInBounds_toArray, List.set_cons_zero, List.set_cons_succ])
    refine takeD (some 22) (i := 4) (oi := ⟨some 22, _, _, _, _, _⟩) (v := .string nm') rfl rfl (by kernel_rfl) (by kernel_rfl) (by kernel_rfl) (fun _ _ _ h => h) (Or.inl ⟨by kernel_rfl, fun w hw => by have hc0 := Ext.cell hw ko; go_simp⟩) hS ?_; (try simp only [Act.put, List.setIfInBounds_toArray, List.set_cons_zero, List.set_cons_succ])
    refine wpAnyH_ready (rs := [5, 8]) (by kernel_rfl) (by simp) (AllReadyH.cons (o := ⟨some 23, _, _, _, _, _⟩) rfl (fun K hK => ?_) (AllReadyH.cons (o := ⟨some 5, _, _, _, _, _⟩) rfl (fun K hK => ?_) (AllReadyH.nil)))
    · refine step_callG rfl (some 23) rfl 29 _ Try.func29 (by kernel_rfl) (by kernel_rfl) _ _ rfl #[.agg #[.slice (some ⟨b, o, none⟩) n c, .int .i64 r1, .int .i64 r2, .bool r3, .int .i64 r4, .int .i64 r5], .string nm'] (by first | rfl | simp [Act.eval, Act.put]) _ (KA1.out _ hS) ?_; rintro e w2 ⟨rfl, hx2⟩; refine ⟨_, rfl, hK.out _ _ (Ext.tr hS hx2) ?_⟩; intro hS; clear hK; (try simp only [Act.put, List.setIfInBounds_toArray, List.set_cons_zero, List.set_cons_succ])
      refine takeD (some 24) (i := 6) (oi := ⟨some 24, _, _, _, _, _⟩) (v := .pointer (some ⟨b, o + k * 3, none⟩)) rfl rfl (by kernel_rfl) (by kernel_rfl) (by kernel_rfl) (fun _ _ _ h => h) (Or.inl ⟨by kernel_rfl, fun w hw => by go_simp⟩) hS ?_; (try simp only [Act.put, List.setIfInBounds_toArray, List.set_cons_zero, List.set_cons_succ])
      refine takeD (some 25) (i := 7) (oi := ⟨some 25, _, _, _, _, _⟩) (v := .agg #[.string nm', .slice Af n0 cf, .int .i64 sf]) rfl rfl (by kernel_rfl) (by kernel_rfl) (by kernel_rfl) (fun _ _ _ h => h) (Or.inl ⟨by kernel_rfl, fun w hw => by have hc0 := Ext.cell hw e0; have hc1 := Ext.cell hw e1; have hc2 := Ext.cell hw e2; go_simp⟩) hS ?_; (try simp only [Act.put, List.setIfInBounds_toArray, List.set_cons_zero, List.set_cons_succ])
      refine wpAnyH_ready (rs := [8]) (by kernel_rfl) (by simp) (AllReadyH.cons (o := ⟨some 5, _, _, _, _, _⟩) rfl (fun K hK => ?_) (AllReadyH.nil))
      refine step_alloc rfl (some 5) rfl 49 rfl _ alloc_fil ?_; intro g5 w5 hg5 hxg5 bn; have hgn := Nat.le_trans (Below.size hS) hg5; refine hK.out _ _ (Ext.tr hS hxg5) ?_; intro hS; clear hK; (try simp only [Act.put, List.setIfInBounds_toArray, List.set_cons_zero, List.set_cons_succ])
      refine wpAnyH_ready (rs := [9]) (by kernel_rfl) (by simp) (AllReadyH.cons (o := ⟨none, _, _, _, _, _⟩) rfl (fun K hK => ?_) (AllReadyH.nil))
      refine step_store rfl none rfl 49 (.tmp 5) (.tmp 25) rfl g5 49 _ #[.string nm', .slice Af n0 cf, .int .i64 sf] rfl rfl bn rfl (fil_one _ _ _ _ _) 3 fil_wide rfl ?_; intro w6 c14 hkeep hext; refine hK.out _ _ (hext _ hgn hS) ?_; intro hS; clear hkeep hext hK; (try simp only [Act.put, List.setIfInBounds_toArray, List.set_cons_zero, List.set_cons_succ])
      refine wpAnyH_done (by kernel_rfl) ?_ _
      go_wp2_with fail
      go_meet
      case rel => exact ⟨g5, rfl, hgn, hS, c14⟩
    · refine step_alloc rfl (some 5) rfl 49 rfl _ alloc_fil ?_; intro g5 w5 hg5 hxg5 bn; have hgn := Nat.le_trans (Below.size hS) hg5; refine hK.out _ _ (Ext.tr hS hxg5) ?_; intro hS; clear hK; (try simp only [Act.put, List.setIfInBounds_toArray, List.set_cons_zero, List.set_cons_succ])
      refine wpAnyH_ready (rs := [5]) (by kernel_rfl) (by simp) (AllReadyH.cons (o := ⟨some 23, _, _, _, _, _⟩) rfl (fun K hK => ?_) (AllReadyH.nil))
      refine step_callG rfl (some 23) rfl 29 _ Try.func29 (by kernel_rfl) (by kernel_rfl) _ _ rfl #[.agg #[.slice (some ⟨b, o, none⟩) n c, .int .i64 r1, .int .i64 r2, .bool r3, .int .i64 r4, .int .i64 r5], .string nm'] (by first | rfl | simp [Act.eval, Act.put]) _ (KA1.out _ hS) ?_; rintro e w2 ⟨rfl, hx2⟩; refine ⟨_, rfl, hK.out _ _ (Ext.tr hS hx2) ?_⟩; intro hS; clear hK; (try simp only [Act.put, List.setIfInBounds_toArray, List.set_cons_zero, List.set_cons_succ])
      refine takeD (some 24) (i := 6) (oi := ⟨some 24, _, _, _, _, _⟩) (v := .pointer (some ⟨b, o + k * 3, none⟩)) rfl rfl (by kernel_rfl) (by kernel_rfl) (by kernel_rfl) (fun _ _ _ h => h) (Or.inl ⟨by kernel_rfl, fun w hw => by go_simp⟩) hS ?_; (try simp only [Act.put, List.setIfInBounds_toArray, List.set_cons_zero, List.set_cons_succ])
      refine takeD (some 25) (i := 7) (oi := ⟨some 25, _, _, _, _, _⟩) (v := .agg #[.string nm', .slice Af n0 cf, .int .i64 sf]) rfl rfl (by kernel_rfl) (by kernel_rfl) (by kernel_rfl) (fun _ _ _ h => h) (Or.inl ⟨by kernel_rfl, fun w hw => by have hc0 := Ext.cell hw e0; have hc1 := Ext.cell hw e1; have hc2 := Ext.cell hw e2; go_simp⟩) hS ?_; (try simp only [Act.put, List.setIfInBounds_toArray, List.set_cons_zero, List.set_cons_succ])
      refine wpAnyH_ready (rs := [9]) (by kernel_rfl) (by simp) (AllReadyH.cons (o := ⟨none, _, _, _, _, _⟩) rfl (fun K hK => ?_) (AllReadyH.nil))
      refine step_store rfl none rfl 49 (.tmp 5) (.tmp 25) rfl g5 49 _ #[.string nm', .slice Af n0 cf, .int .i64 sf] rfl rfl (BlkE bn hx2) rfl (fil_one _ _ _ _ _) 3 fil_wide rfl ?_; intro w6 c14 hkeep hext; refine hK.out _ _ (hext _ hgn hS) ?_; intro hS; clear hkeep hext hK; (try simp only [Act.put, List.setIfInBounds_toArray, List.set_cons_zero, List.set_cons_succ])
      refine wpAnyH_done (by kernel_rfl) ?_ _
      go_wp2_with fail
      go_meet
      case rel => exact ⟨g5, rfl, hgn, hS, c14⟩
    -- END4
  case rest =>
    obtain ⟨g5, rfl, hg5, hxc, bf⟩ := hcut
    have hXc := HX1.out.tr hxc
    have hg5c : g5 < wc.heap.size := bf.lt
    have d0 := (BlkE B1.out hxc).cell 0
    have d1 := (BlkE BO.out hxc).cell 1
    go_upto_region 6 with (first | (go_at_call 46; (with_reducible refine (KT.out _ hXc).mono ?_); rintro e wt ⟨A6, c6, rfl, hxt, hot⟩))
    have hXt := hXc.tr hxt
    have hX1t := hxc.tr hxt
    have bF := BlkE bf hxt
    have BD := Lib.hid (BlkE B1.out hX1t)
    have BOt := Lib.hid (BlkE BO.out hX1t)
    have B2t := Lib.hid (BlkE B2.out hX1t)
    have hzt : W1.heap.size ≤ wt.heap.size := hX1t.size
    have o0 := BOt.out.cell 0
    have HZ1 := Lib.hid hz1.out
    clear d0 d1 bf KA KT B1 B2 hz1 hxt hxc K0 HCC
    go_upto_region 7 with fail
    have hmk := List.mem_of_getElem? Hfk.out
    rcases hK with rfl | rfl | rfl | rfl | rfl
    · -- an append
      have hbl := hbl rfl
      have f1 := bF.cell 1
      have oW := BO.out.cell 3
      have KC := Lib.hid fun W (hx : Ext wt W) => copy_any Af n0 cf fb W (by rw [Hn0.out] at *; exact rd_own (own_ext (hXt.tr hx) Hof.out)) (by omega)
      unfold NewB at KC
      rw [← Hn0.out] at KC
      clear o0
      go_upto_region 8 with fail
      -- REGION8
      refine wp_region_held_drew (S := fun w' => Ext W1 w') (by kernel_rfl) (ExtD hX1t) (fun hS => ?_)
      refine takeD (some 35) (i := 0) (oi := ⟨some 35, _, _, _, _, _⟩) (v := .pointer (some ⟨g5, 1, none⟩)) rfl rfl (by kernel_rfl) (by kernel_rfl) (by kernel_rfl) (fun _ _ _ h => h) (Or.inl ⟨by kernel_rfl, fun w hw => by go_simp⟩) hS ?_; (try simp only [Act.put, List.setIfInBounds_toArray, List.set_cons_zero, List.set_cons_succ])
      refine takeD (some 38) (i := 3) (oi := ⟨some 38, _, _, _, _, _⟩) (v := .pointer (some ⟨w.heap.size + 1, 3, none⟩)) rfl rfl (by kernel_rfl) (by kernel_rfl) (by kernel_rfl) (fun _ _ _ h => h) (Or.inl ⟨by kernel_rfl, fun w hw => by go_simp⟩) hS ?_; (try simp only [Act.put, List.setIfInBounds_toArray, List.set_cons_zero, List.set_cons_succ])
      refine takeD (some 39) (i := 4) (oi := ⟨some 39, _, _, _, _, _⟩) (v := .slice Bb bl bc) rfl rfl (by kernel_rfl) (by kernel_rfl) (by kernel_rfl) (fun _ _ _ h => h) (Or.inl ⟨by kernel_rfl, fun w hw => by have hc0 := Ext.cell hw oW; go_simp⟩) hS ?_; (try simp only [Act.put, List.setIfInBounds_toArray, List.set_cons_zero, List.set_cons_succ])
      refine wpAnyH_ready (rs := [1]) (by kernel_rfl) (by simp) (AllReadyH.cons (o := ⟨some 36, _, _, _, _, _⟩) rfl (fun K hK => ?_) (AllReadyH.nil))
      refine step_run rfl (some 36) rfl (.slice Af n0 cf) wt.drew (by have hc := f1; go_simp) ?_; refine hK.out _ _ hS ?_; intro hS; clear hK; (try simp only [Act.put, List.setIfInBounds_toArray, List.set_cons_zero, List.set_cons_succ])
      refine wpAnyH_ready (rs := [2]) (by kernel_rfl) (by simp) (AllReadyH.cons (o := ⟨some 37, _, _, _, _, _⟩) rfl (fun K hK => ?_) (AllReadyH.nil))
      refine step_callG rfl (some 37) rfl 28 _ Try.func28 (by kernel_rfl) (by kernel_rfl) _ _ rfl #[.slice Af n0 cf] (by first | rfl | simp [Act.eval, Act.put]) _ (KC.out _ (ExtD (Ext.rfl' wt))) ?_; rintro e w2 ⟨A8, c8, rfl, hx2, hou⟩; refine ⟨_, rfl, hK.out _ _ (Ext.tr hS hx2) ?_⟩; intro hS; clear hK; (try simp only [Act.put, List.setIfInBounds_toArray, List.set_cons_zero, List.set_cons_succ])
      refine wpAnyH_ready (rs := [5]) (by kernel_rfl) (by simp) (AllReadyH.cons (o := ⟨some 40, _, _, _, _, _⟩) rfl (fun K hK => ?_) (AllReadyH.nil))
      refine step_appendG rfl (some 40) rfl (.tmp 37) (.tmp 39) rfl W1.heap.size (Below.size hS) rfl (own_base hou (by simp; omega)) rfl (HBS.out.ext (HX1.out.tr hS)) (by omega) ?_; intro A10 c10 w4 hov hg4; have hxw : Ext wt w4 := Ext.grown (Ext.tr (ExtD (Ext.rfl' wt)) hx2) hg4 (fun r hr => by have := (World.ownsRow.lt hou r hr).1; simpa using this); have hX4 : Ext W1 w4 := hX1t.tr hxw; refine hK.out _ _ hX4 ?_; intro hS; clear hK; (try simp only [Act.put, List.setIfInBounds_toArray, List.set_cons_zero, List.set_cons_succ])
      refine takeD (some 41) (i := 6) (oi := ⟨some 41, _, _, _, _, _⟩) (v := .pointer (some ⟨g5, 1, none⟩)) rfl rfl (by kernel_rfl) (by kernel_rfl) (by kernel_rfl) (fun _ _ _ h => h) (Or.inl ⟨by kernel_rfl, fun w hw => by go_simp⟩) hS ?_; (try simp only [Act.put, List.setIfInBounds_toArray, List.set_cons_zero, List.set_cons_succ])
      have b4 := BlkE bF hxw
      have z1 := b4.cell 1
      have z2 := b4.frozen 1
      refine wpAnyH_ready (rs := [7]) (by kernel_rfl) (by simp) (AllReadyH.cons (o := ⟨none, _, _, _, _, _⟩) rfl (fun K hK => ?_) (AllReadyH.nil))
      refine step_skip rfl none rfl (w4.setCell ⟨g5, 1, none⟩ (.slice A10 (n0 + bl) c10)) (by unfold execOp; go_simp) ?_; refine hK.out _ _ (ExtS hg5 hX4) ?_; intro hS; clear hK; (try simp only [Act.put, List.setIfInBounds_toArray, List.set_cons_zero, List.set_cons_succ])
      refine wpAnyH_done (by kernel_rfl) ?_ _
      -- END8
      have bFv := Blk_eq (BlkS (i := 1) (u := .slice A10 (n0 + bl) c10) b4) (cs' := #[.string nm', .slice A10 (n0 + bl) c10, .int .i64 sf]) rfl
      have bDv := BlkF (p := ⟨g5, 1, none⟩) (u := .slice A10 (n0 + bl) c10) (show w.heap.size ≠ g5 by have := HZ1.out; omega) (BlkE BD.out hxw)
      have b2v := BlkF (p := ⟨g5, 1, none⟩) (u := .slice A10 (n0 + bl) c10) (show w.heap.size + 1 + 1 ≠ g5 by have := HZ1.out; omega) (BlkE B2t.out hxw)
      have rowv := own_setCell (p := ⟨g5, 1, none⟩) (u := .slice A10 (n0 + bl) c10) hg5c (own_ext hxw hot)
      have hov2 := own_setT (i := 1) (u := .slice A10 (n0 + bl) c10) hov b4 (by decide)
      have hX1v : Ext W1 (w4.setCell ⟨g5, 1, none⟩ (.slice A10 (n0 + bl) c10)) := ExtS hg5 hX4
      have hXv : Ext w (w4.setCell ⟨g5, 1, none⟩ (.slice A10 (n0 + bl) c10)) := HX1.out.tr hX1v
      have hbl2 : bs.length = bl := by have := HBS.out.1; rw [u8s_len] at this; exact this
      have HLn : Hid ((fb ++ bs).length = n0 + bl) := Lib.hid (by rw [List.length_append, hbl2, ← Hn0.out])
      go_upto_region 21 with fail
      generalize w4.setCell ⟨g5, 1, none⟩ (.slice A10 (n0 + bl) c10) = wv at *
      have HDv : Hid (wv.ownsRow W1.heap.size 5 1 (.slice A10 (fb ++ bs).length c10) (fb ++ bs).length (u8s (fb ++ bs)) ∨ ∃ y ∈ hs0, y.2.1 = A10 ∧ w.ownsRow B0 5 1 (.slice A10 (fb ++ bs).length c10) (fb ++ bs).length (u8s (fb ++ bs))) := Lib.hid (.inl (by rw [HLn.out]; exact hov2))
      have HCV : Hid (putV ⟨nm', fb ++ bs, sf⟩ (takeV (hs0.map (·.1)) nm') = chV (hs0.map (·.1)) ⟨nm', fb, sf⟩ ⟨1, nm', tg, bs, N, M, keep⟩) := Lib.hid rfl
      clear f1 oW z1 z2 b4 hov hov2 hx2 hou hxw hX4 hS hg4 hot
      have KPv : Hid (Calls Try.prog 40 #[.slice A6 tl c6, .agg #[.string nm', .slice A10 (n0 + bl) c10, .int .i64 sf]] wv (GaveH wv (putH (⟨nm', fb ++ bs, sf⟩, A10, c10) (takeH hs0 nm')))) := Lib.hid (by
        have h9 := rput_any A6 tl c6 (takeH hs0 nm') ⟨nm', fb ++ bs, sf⟩ A10 c10 wv (RdN.of_own rowv) (by omega)
        dsimp only at h9
        rw [HLn.out] at h9
        exact h9)
      unfold GaveH at KPv
      obtain ⟨pl, hpl⟩ : ∃ pl, pl = (putH (⟨nm', fb ++ bs, sf⟩, A10, c10) (takeH hs0 nm')).length := ⟨_, rfl⟩
      rw [← hpl] at KPv
      have Hpl := Lib.hid hpl
      have hzv : W1.heap.size ≤ wv.heap.size := hX1v.size
      have d0v := bDv.cell 0
      clear hpl
      go_upto_region 22 with (first
        | (with_reducible refine wpL_load_row rfl 49 (.tmp 5) rfl g5 49 _ 3 rfl bFv fil_wide (fil_size _ _ _ _ _) ?_)
        | (go_at_call 40; (with_reducible refine (KPv.out).mono ?_); rintro e w9 ⟨A9, c9, rfl, hx9, ho9⟩; have c0 := (BlkE bDv hx9).cell 0; have z0 := (BlkE bDv hx9).frozen 0))
      have q1 := Blk_eq (BlkS (i := 0) (u := .slice A9 pl c9) (BlkE bDv hx9)) (cs' := #[.slice A9 pl c9, .int .i64 r1, .int .i64 r2, .bool r3, .int .i64 r4, .int .i64 r5]) rfl
      have q2 := BlkF (p := ⟨w.heap.size, 0, none⟩) (u := .slice A9 pl c9) (show w.heap.size + 1 + 1 ≠ w.heap.size by omega) (BlkE b2v hx9)
      clear c0 z0 d0v
      go_wp2_with (first
        | (with_reducible refine wpL_load_row rfl 28 (.tmp 2) rfl w.heap.size 28 _ 6 rfl q1 disk_wide (dk_size _ _ _ _ _ _ _ _) ?_)
        | (with_reducible refine wpL_store_row rfl 28 (.tmp 4) (.tmp 83) rfl (w.heap.size + 1 + 1) 28 _ _ rfl rfl q2 ((dk_size _ _ _ _ _ _ _ _).trans (dk_size _ _ _ _ _ _ _ _).symm) (dk_one _ _ _ _ _ _ _ _) 6 disk_wide (dk_size _ _ _ _ _ _ _ _) ?_))
      refine bodyPost_ret (res_row rfl _ _ (w.heap.size + 1 + 1) 28 _ 6 rfl (Blk.setRow_ q2) disk_wide rfl) rfl ?_
      have hXf : Ext w ((w9.setCell ⟨w.heap.size, 0, none⟩ (.slice A9 pl c9)).setRow (w.heap.size + 1 + 1) #[.slice A9 pl c9, .int .i64 r1, .int .i64 r2, .bool r3, .int .i64 r4, .int .i64 r5]) := ExtR (by omega) (ExtS (Nat.le_refl _) (hXv.tr hx9))
      have hz9 := HZ1.out
      have ho9' := own_setRow (g := w.heap.size + 1 + 1) (ds := #[.slice A9 pl c9, .int .i64 r1, .int .i64 r2, .bool r3, .int .i64 r4, .int .i64 r5]) (by omega) (own_setCell (p := ⟨w.heap.size, 0, none⟩) (u := .slice A9 pl c9) (by dsimp only; omega) ho9)
      refine ch_end (B1 := wv.heap.size) (l := putH (⟨nm', fb ++ bs, sf⟩, A10, c10) (takeH hs0 nm')) rfl Hpl.out ?_ hXf hB (by omega) ho9' (fun x hx => ?_)
      · rw [put_fv]
        (first | rw [take_fv, take_fv] | rw [take_fv])
        exact HCV.out
      rcases putH_mem hx with rfl | hx
      · rcases HDv.out with h | ⟨y, hy, h1, h2⟩
        · exact .inr (.inl (own_base (own_setRow (g := w.heap.size + 1 + 1) (by omega) (own_setCell (p := ⟨w.heap.size, 0, none⟩) (by dsimp only; omega) (own_ext hx9 h))) (by omega)))
        · exact .inr (.inr ⟨own_ext hXf h2, y, hy, h1⟩)
      · exact .inl ⟨takeH_mem hx, own_ext hXf (HR.out.2 x (takeH_mem hx))⟩
    · -- a sync
      go_upto_region 10 with fail
      have f1 := bF.cell 1
      have f2 := bF.cell 2
      have y2 := bF.frozen 2
      go_upto_region 21 with fail
      have bFv := Blk_eq (BlkS (i := 2) (u := .int .i64 (n0 : Nat)) bF) (cs' := #[.string nm', .slice Af n0 cf, .int .i64 (n0 : Nat)]) rfl
      have bDv := BlkF (p := ⟨g5, 2, none⟩) (u := .int .i64 (n0 : Nat)) (show w.heap.size ≠ g5 by have := HZ1.out; omega) BD.out
      have b2v := BlkF (p := ⟨g5, 2, none⟩) (u := .int .i64 (n0 : Nat)) (show w.heap.size + 1 + 1 ≠ g5 by have := HZ1.out; omega) B2t.out
      have rowv := own_setCell (p := ⟨g5, 2, none⟩) (u := .int .i64 (n0 : Nat)) hg5c hot
      have hX1v : Ext W1 (wt.setCell ⟨g5, 2, none⟩ (.int .i64 (n0 : Nat))) := ExtS hg5 hX1t
      have hXv : Ext w (wt.setCell ⟨g5, 2, none⟩ (.int .i64 (n0 : Nat))) := HX1.out.tr hX1v
      generalize wt.setCell ⟨g5, 2, none⟩ (.int .i64 (n0 : Nat)) = wv at *
      have HLn : Hid (fb.length = n0) := Lib.hid Hn0.out.symm
      have HDv : Hid (wv.ownsRow W1.heap.size 5 1 (.slice Af fb.length cf) fb.length (u8s fb) ∨ ∃ y ∈ hs0, y.2.1 = Af ∧ w.ownsRow B0 5 1 (.slice Af fb.length cf) fb.length (u8s fb)) := Lib.hid (.inr ⟨_, hmk, rfl, Hof.out⟩)
      clear f1 f2 y2 o0
      have HCV : Hid (putV ⟨nm', fb, (n0 : Nat)⟩ (takeV (hs0.map (·.1)) nm') = chV (hs0.map (·.1)) ⟨nm', fb, sf⟩ ⟨2, nm', tg, bs, N, M, keep⟩) := Lib.hid (by rw [Hn0.out]; rfl)
      have KPv : Hid (Calls Try.prog 40 #[.slice A6 tl c6, .agg #[.string nm', .slice Af n0 cf, .int .i64 (n0 : Nat)]] wv (GaveH wv (putH (⟨nm', fb, (n0 : Nat)⟩, Af, cf) (takeH hs0 nm')))) := Lib.hid (by
        have h9 := rput_any A6 tl c6 (takeH hs0 nm') ⟨nm', fb, (n0 : Nat)⟩ Af cf wv (RdN.of_own rowv) (by omega)
        dsimp only at h9
        rw [HLn.out] at h9
        exact h9)
      unfold GaveH at KPv
      obtain ⟨pl, hpl⟩ : ∃ pl, pl = (putH (⟨nm', fb, (n0 : Nat)⟩, Af, cf) (takeH hs0 nm')).length := ⟨_, rfl⟩
      rw [← hpl] at KPv
      have Hpl := Lib.hid hpl
      have hzv : W1.heap.size ≤ wv.heap.size := hX1v.size
      have d0v := bDv.cell 0
      clear hpl
      go_upto_region 22 with (first
        | (with_reducible refine wpL_load_row rfl 49 (.tmp 5) rfl g5 49 _ 3 rfl bFv fil_wide (fil_size _ _ _ _ _) ?_)
        | (go_at_call 40; (with_reducible refine (KPv.out).mono ?_); rintro e w9 ⟨A9, c9, rfl, hx9, ho9⟩; have c0 := (BlkE bDv hx9).cell 0; have z0 := (BlkE bDv hx9).frozen 0))
      have q1 := Blk_eq (BlkS (i := 0) (u := .slice A9 pl c9) (BlkE bDv hx9)) (cs' := #[.slice A9 pl c9, .int .i64 r1, .int .i64 r2, .bool r3, .int .i64 r4, .int .i64 r5]) rfl
      have q2 := BlkF (p := ⟨w.heap.size, 0, none⟩) (u := .slice A9 pl c9) (show w.heap.size + 1 + 1 ≠ w.heap.size by omega) (BlkE b2v hx9)
      clear c0 z0 d0v
      go_wp2_with (first
        | (with_reducible refine wpL_load_row rfl 28 (.tmp 2) rfl w.heap.size 28 _ 6 rfl q1 disk_wide (dk_size _ _ _ _ _ _ _ _) ?_)
        | (with_reducible refine wpL_store_row rfl 28 (.tmp 4) (.tmp 83) rfl (w.heap.size + 1 + 1) 28 _ _ rfl rfl q2 ((dk_size _ _ _ _ _ _ _ _).trans (dk_size _ _ _ _ _ _ _ _).symm) (dk_one _ _ _ _ _ _ _ _) 6 disk_wide (dk_size _ _ _ _ _ _ _ _) ?_))
      refine bodyPost_ret (res_row rfl _ _ (w.heap.size + 1 + 1) 28 _ 6 rfl (Blk.setRow_ q2) disk_wide rfl) rfl ?_
      have hXf : Ext w ((w9.setCell ⟨w.heap.size, 0, none⟩ (.slice A9 pl c9)).setRow (w.heap.size + 1 + 1) #[.slice A9 pl c9, .int .i64 r1, .int .i64 r2, .bool r3, .int .i64 r4, .int .i64 r5]) := ExtR (by omega) (ExtS (Nat.le_refl _) (hXv.tr hx9))
      have hz9 := HZ1.out
      have ho9' := own_setRow (g := w.heap.size + 1 + 1) (ds := #[.slice A9 pl c9, .int .i64 r1, .int .i64 r2, .bool r3, .int .i64 r4, .int .i64 r5]) (by omega) (own_setCell (p := ⟨w.heap.size, 0, none⟩) (u := .slice A9 pl c9) (by dsimp only; omega) ho9)
      refine ch_end (B1 := wv.heap.size) (l := putH (⟨nm', fb, (n0 : Nat)⟩, Af, cf) (takeH hs0 nm')) rfl Hpl.out ?_ hXf hB (by omega) ho9' (fun x hx => ?_)
      · rw [put_fv]
        (first | rw [take_fv, take_fv] | rw [take_fv])
        exact HCV.out
      rcases putH_mem hx with rfl | hx
      · rcases HDv.out with h | ⟨y, hy, h1, h2⟩
        · exact .inr (.inl (own_base (own_setRow (g := w.heap.size + 1 + 1) (by omega) (own_setCell (p := ⟨w.heap.size, 0, none⟩) (by dsimp only; omega) (own_ext hx9 h))) (by omega)))
        · exact .inr (.inr ⟨own_ext hXf h2, y, hy, h1⟩)
      · exact .inl ⟨takeH_mem hx, own_ext hXf (HR.out.2 x (takeH_mem hx))⟩
    · -- a rename
      go_upto_region 12 with fail
      have o2 := BOt.out.cell 2
      have y0 := bF.frozen 0
      have f0 := bF.cell 0
      go_upto_region 13 with fail
      have bFu := Blk_eq (BlkS (i := 0) (u := .string tg) bF) (cs' := #[.string tg, .slice Af n0 cf, .int .i64 sf]) rfl
      have bDu := BlkF (p := ⟨g5, 0, none⟩) (u := .string tg) (show w.heap.size ≠ g5 by have := HZ1.out; omega) BD.out
      have bOu := BlkF (p := ⟨g5, 0, none⟩) (u := .string tg) (show w.heap.size + 1 ≠ g5 by have := HZ1.out; omega) BOt.out
      have b2u := BlkF (p := ⟨g5, 0, none⟩) (u := .string tg) (show w.heap.size + 1 + 1 ≠ g5 by have := HZ1.out; omega) B2t.out
      have rowu := own_setCell (p := ⟨g5, 0, none⟩) (u := .string tg) hg5c hot
      have hX1u : Ext W1 (wt.setCell ⟨g5, 0, none⟩ (.string tg)) := ExtS hg5 hX1t
      have hXu : Ext w (wt.setCell ⟨g5, 0, none⟩ (.string tg)) := HX1.out.tr hX1u
      generalize wt.setCell ⟨g5, 0, none⟩ (.string tg) = wu at *
      have u2 := bOu.cell 2
      have KT2 : Hid (Calls Try.prog 46 #[.slice A6 tl c6, .string tg] wu (GaveH wu (takeH (takeH hs0 nm') tg))) := Lib.hid (rtake_any A6 tl c6 (takeH hs0 nm') tg wu (RdN.of_own rowu) (by omega))
      unfold GaveH at KT2
      obtain ⟨t2, ht2⟩ : ∃ t2, t2 = (takeH (takeH hs0 nm') tg).length := ⟨_, rfl⟩
      have ht2n : t2 ≤ 700 := by rw [ht2]; have h1 := takeH_len (takeH hs0 nm') tg; have h2 := Htl.out; omega
      rw [← ht2] at KT2
      clear o2 y0 f0 o0 hot rowu ht2
      go_upto_region 21 with (first | (go_at_call 46; (with_reducible refine (KT2.out).mono ?_); rintro e wv ⟨A6, c6, rfl, hxv, rowv⟩))
      have bFv := BlkE bFu hxv
      have bDv := BlkE bDu hxv
      have b2v := BlkE b2u hxv
      have hX1v : Ext W1 wv := hX1u.tr hxv
      have hXv : Ext w wv := hXu.tr hxv
      have HLn : Hid (fb.length = n0) := Lib.hid Hn0.out.symm
      have HDv : Hid (wv.ownsRow W1.heap.size 5 1 (.slice Af fb.length cf) fb.length (u8s fb) ∨ ∃ y ∈ hs0, y.2.1 = Af ∧ w.ownsRow B0 5 1 (.slice Af fb.length cf) fb.length (u8s fb)) := Lib.hid (.inr ⟨_, hmk, rfl, Hof.out⟩)
      have HCV : Hid (putV ⟨tg, fb, sf⟩ (takeV (takeV (hs0.map (·.1)) nm') tg) = chV (hs0.map (·.1)) ⟨nm', fb, sf⟩ ⟨3, nm', tg, bs, N, M, keep⟩) := Lib.hid rfl
      clear u2 bFu bDu bOu b2u hX1u hXu hxv KT2
      have KPv : Hid (Calls Try.prog 40 #[.slice A6 t2 c6, .agg #[.string tg, .slice Af n0 cf, .int .i64 sf]] wv (GaveH wv (putH (⟨tg, fb, sf⟩, Af, cf) (takeH (takeH hs0 nm') tg)))) := Lib.hid (by
        have h9 := rput_any A6 t2 c6 (takeH (takeH hs0 nm') tg) ⟨tg, fb, sf⟩ Af cf wv (RdN.of_own rowv) (by omega)
        dsimp only at h9
        rw [HLn.out] at h9
        exact h9)
      unfold GaveH at KPv
      obtain ⟨pl, hpl⟩ : ∃ pl, pl = (putH (⟨tg, fb, sf⟩, Af, cf) (takeH (takeH hs0 nm') tg)).length := ⟨_, rfl⟩
      rw [← hpl] at KPv
      have Hpl := Lib.hid hpl
      have hzv : W1.heap.size ≤ wv.heap.size := hX1v.size
      have d0v := bDv.cell 0
      clear hpl
      go_upto_region 22 with (first
        | (with_reducible refine wpL_load_row rfl 49 (.tmp 5) rfl g5 49 _ 3 rfl bFv fil_wide (fil_size _ _ _ _ _) ?_)
        | (go_at_call 40; (with_reducible refine (KPv.out).mono ?_); rintro e w9 ⟨A9, c9, rfl, hx9, ho9⟩; have c0 := (BlkE bDv hx9).cell 0; have z0 := (BlkE bDv hx9).frozen 0))
      have q1 := Blk_eq (BlkS (i := 0) (u := .slice A9 pl c9) (BlkE bDv hx9)) (cs' := #[.slice A9 pl c9, .int .i64 r1, .int .i64 r2, .bool r3, .int .i64 r4, .int .i64 r5]) rfl
      have q2 := BlkF (p := ⟨w.heap.size, 0, none⟩) (u := .slice A9 pl c9) (show w.heap.size + 1 + 1 ≠ w.heap.size by omega) (BlkE b2v hx9)
      clear c0 z0 d0v
      go_wp2_with (first
        | (with_reducible refine wpL_load_row rfl 28 (.tmp 2) rfl w.heap.size 28 _ 6 rfl q1 disk_wide (dk_size _ _ _ _ _ _ _ _) ?_)
        | (with_reducible refine wpL_store_row rfl 28 (.tmp 4) (.tmp 83) rfl (w.heap.size + 1 + 1) 28 _ _ rfl rfl q2 ((dk_size _ _ _ _ _ _ _ _).trans (dk_size _ _ _ _ _ _ _ _).symm) (dk_one _ _ _ _ _ _ _ _) 6 disk_wide (dk_size _ _ _ _ _ _ _ _) ?_))
      refine bodyPost_ret (res_row rfl _ _ (w.heap.size + 1 + 1) 28 _ 6 rfl (Blk.setRow_ q2) disk_wide rfl) rfl ?_
      have hXf : Ext w ((w9.setCell ⟨w.heap.size, 0, none⟩ (.slice A9 pl c9)).setRow (w.heap.size + 1 + 1) #[.slice A9 pl c9, .int .i64 r1, .int .i64 r2, .bool r3, .int .i64 r4, .int .i64 r5]) := ExtR (by omega) (ExtS (Nat.le_refl _) (hXv.tr hx9))
      have hz9 := HZ1.out
      have ho9' := own_setRow (g := w.heap.size + 1 + 1) (ds := #[.slice A9 pl c9, .int .i64 r1, .int .i64 r2, .bool r3, .int .i64 r4, .int .i64 r5]) (by omega) (own_setCell (p := ⟨w.heap.size, 0, none⟩) (u := .slice A9 pl c9) (by dsimp only; omega) ho9)
      refine ch_end (B1 := wv.heap.size) (l := putH (⟨tg, fb, sf⟩, Af, cf) (takeH (takeH hs0 nm') tg)) rfl Hpl.out ?_ hXf hB (by omega) ho9' (fun x hx => ?_)
      · rw [put_fv]
        (first | rw [take_fv, take_fv] | rw [take_fv])
        exact HCV.out
      rcases putH_mem hx with rfl | hx
      · rcases HDv.out with h | ⟨y, hy, h1, h2⟩
        · exact .inr (.inl (own_base (own_setRow (g := w.heap.size + 1 + 1) (by omega) (own_setCell (p := ⟨w.heap.size, 0, none⟩) (by dsimp only; omega) (own_ext hx9 h))) (by omega)))
        · exact .inr (.inr ⟨own_ext hXf h2, y, hy, h1⟩)
      · exact .inl ⟨takeH_mem (takeH_mem hx), own_ext hXf (HR.out.2 x (takeH_mem (takeH_mem hx)))⟩
    · -- a remove
      have d0 := BD.out.cell 0
      have y0 := BD.out.frozen 0
      go_upto_region 16 with fail
      have q1 := Blk_eq (BlkS (i := 0) (u := .slice A6 tl c6) BD.out) (cs' := #[.slice A6 tl c6, .int .i64 r1, .int .i64 r2, .bool r3, .int .i64 r4, .int .i64 r5]) rfl
      have q2 := BlkF (p := ⟨w.heap.size, 0, none⟩) (u := .slice A6 tl c6) (show w.heap.size + 1 + 1 ≠ w.heap.size by omega) B2t.out
      clear d0 y0
      go_wp2_with (first
        | (with_reducible refine wpL_load_row rfl 28 (.tmp 2) rfl w.heap.size 28 _ 6 rfl q1 disk_wide (dk_size _ _ _ _ _ _ _ _) ?_)
        | (with_reducible refine wpL_store_row rfl 28 (.tmp 4) (.tmp 61) rfl (w.heap.size + 1 + 1) 28 _ _ rfl rfl q2 ((dk_size _ _ _ _ _ _ _ _).trans (dk_size _ _ _ _ _ _ _ _).symm) (dk_one _ _ _ _ _ _ _ _) 6 disk_wide (dk_size _ _ _ _ _ _ _ _) ?_))
      (try simp only [Exit.inBlock, Exit.then]); refine bodyPost_ret (res_row rfl _ _ (w.heap.size + 1 + 1) 28 _ 6 rfl (Blk.setRow_ q2) disk_wide rfl) rfl ?_
      have hXf : Ext w ((wt.setCell ⟨w.heap.size, 0, none⟩ (.slice A6 tl c6)).setRow (w.heap.size + 1 + 1) #[.slice A6 tl c6, .int .i64 r1, .int .i64 r2, .bool r3, .int .i64 r4, .int .i64 r5]) := ExtR (by omega) (ExtS (Nat.le_refl _) hXt)
      have hz9 := HZ1.out
      have hzc : W1.heap.size ≤ wc.heap.size := by omega
      have ho9' := own_setRow (g := w.heap.size + 1 + 1) (ds := #[.slice A6 tl c6, .int .i64 r1, .int .i64 r2, .bool r3, .int .i64 r4, .int .i64 r5]) (by omega) (own_setCell (p := ⟨w.heap.size, 0, none⟩) (u := .slice A6 tl c6) (by dsimp only; omega) hot)
      refine ch_end (B1 := wc.heap.size) (l := takeH hs0 nm') rfl Htl.out (by rw [take_fv]; rfl) hXf hB (by omega) ho9' (fun x hx => .inl ⟨takeH_mem hx, own_ext hXf (HR.out.2 x (takeH_mem hx))⟩)
    · -- a cut
      obtain ⟨hN0, hN1⟩ := hN rfl
      obtain ⟨m, rfl⟩ : ∃ m : Nat, N = (m : Nat) := ⟨N.toNat, by omega⟩
      have hmb : m ≤ n0 := by omega
      have hmt : (fb.take m).length = m := by rw [List.length_take]; have := Hn0.out; omega
      obtain ⟨A7, hsl, hrd⟩ := slice_hi Af n0 cf m hmb hcf
      have KC : Hid (Calls Try.prog 28 #[.slice A7 m cf] wt (NewB wt (fb.take m))) := Lib.hid (copy_any A7 m cf (fb.take m) wt (hrd wt fb (by rw [Hn0.out]; exact rd_own (own_ext hXt Hof.out))) (by omega))
      unfold NewB at KC
      rw [hmt] at KC
      have f1 := bF.cell 1
      have o4 := BOt.out.cell 4
      have Hmt := Lib.hid hmt
      clear hmt hrd
      go_upto_region 19 with (first | (go_at_call 28; (with_reducible refine (KC.out).mono ?_); rintro e wu ⟨A8, c8, rfl, hxu, hou⟩; have f1u := (BlkE bF hxu).cell 1; have y1u := (BlkE bF hxu).frozen 1))
      have bFu := Blk_eq (BlkS (i := 1) (u := .slice A8 m c8) (BlkE bF hxu)) (cs' := #[.string nm', .slice A8 m c8, .int .i64 sf]) rfl
      have bDu := BlkF (p := ⟨g5, 1, none⟩) (u := .slice A8 m c8) (show w.heap.size ≠ g5 by have := HZ1.out; omega) (BlkE BD.out hxu)
      have bOu := BlkF (p := ⟨g5, 1, none⟩) (u := .slice A8 m c8) (show w.heap.size + 1 ≠ g5 by have := HZ1.out; omega) (BlkE BOt.out hxu)
      have b2u := BlkF (p := ⟨g5, 1, none⟩) (u := .slice A8 m c8) (show w.heap.size + 1 + 1 ≠ g5 by have := HZ1.out; omega) (BlkE B2t.out hxu)
      have rowu := own_setCell (p := ⟨g5, 1, none⟩) (u := .slice A8 m c8) hg5c (own_ext hxu hot)
      have hou2 := own_setCell (p := ⟨g5, 1, none⟩) (u := .slice A8 m c8) (by have := bF.lt; exact this) hou
      have hX1u : Ext W1 (wu.setCell ⟨g5, 1, none⟩ (.slice A8 m c8)) := ExtS hg5 (hX1t.tr hxu)
      generalize wu.setCell ⟨g5, 1, none⟩ (.slice A8 m c8) = wx at *
      have x2 := bFu.cell 2
      have xy2 := bFu.frozen 2
      have xo := bOu.cell 4
      have HLn : Hid ((fb.take m).length = m) := Lib.hid Hmt.out
      clear f1 o4 o0 f1u y1u hxu hot hou
      by_cases hsm : (m : Int) < sf
      · have t1 : decide ((m : Int) < sf) = true := by simpa using hsm
        go_upto_region 21 with fail
        have bFv := Blk_eq (BlkS (i := 2) (u := .int .i64 (m : Nat)) bFu) (cs' := #[.string nm', .slice A8 m c8, .int .i64 (m : Nat)]) rfl
        have bDv := BlkF (p := ⟨g5, 2, none⟩) (u := .int .i64 (m : Nat)) (show w.heap.size ≠ g5 by have := HZ1.out; omega) bDu
        have b2v := BlkF (p := ⟨g5, 2, none⟩) (u := .int .i64 (m : Nat)) (show w.heap.size + 1 + 1 ≠ g5 by have := HZ1.out; omega) b2u
        have rowv := own_setCell (p := ⟨g5, 2, none⟩) (u := .int .i64 (m : Nat)) hg5c rowu
        have hov := own_setCell (p := ⟨g5, 2, none⟩) (u := .int .i64 (m : Nat)) (by have := bF.lt; exact this) hou2
        have hX1v : Ext W1 (wx.setCell ⟨g5, 2, none⟩ (.int .i64 (m : Nat))) := ExtS hg5 hX1u
        have hXv : Ext w (wx.setCell ⟨g5, 2, none⟩ (.int .i64 (m : Nat))) := HX1.out.tr hX1v
        generalize wx.setCell ⟨g5, 2, none⟩ (.int .i64 (m : Nat)) = wv at *
        have HDv : Hid (wv.ownsRow W1.heap.size 5 1 (.slice A8 (fb.take m).length c8) (fb.take m).length (u8s (fb.take m)) ∨ ∃ y ∈ hs0, y.2.1 = A8 ∧ w.ownsRow B0 5 1 (.slice A8 (fb.take m).length c8) (fb.take m).length (u8s (fb.take m))) := Lib.hid (.inl (by rw [Hmt.out]; exact own_base hov hzt))
        have HCV : Hid (putV ⟨nm', fb.take m, (m : Nat)⟩ (takeV (hs0.map (·.1)) nm') = chV (hs0.map (·.1)) ⟨nm', fb, sf⟩ ⟨5, nm', tg, bs, (m : Nat), M, keep⟩) := Lib.hid (by
          show _ = putV ⟨nm', fb.take ((m : Nat) : Int).toNat, min sf (m : Nat)⟩ _
          rw [Int.toNat_natCast, show min sf (m : Int) = (m : Int) by omega])
        clear x2 xy2 xo bFu bDu bOu b2u rowu hou2 hX1u
        have KPv : Hid (Calls Try.prog 40 #[.slice A6 tl c6, .agg #[.string nm', .slice A8 m c8, .int .i64 (m : Nat)]] wv (GaveH wv (putH (⟨nm', fb.take m, (m : Nat)⟩, A8, c8) (takeH hs0 nm')))) := Lib.hid (by
          have h9 := rput_any A6 tl c6 (takeH hs0 nm') ⟨nm', fb.take m, (m : Nat)⟩ A8 c8 wv (RdN.of_own rowv) (by omega)
          dsimp only at h9
          rw [HLn.out] at h9
          exact h9)
        unfold GaveH at KPv
        obtain ⟨pl, hpl⟩ : ∃ pl, pl = (putH (⟨nm', fb.take m, (m : Nat)⟩, A8, c8) (takeH hs0 nm')).length := ⟨_, rfl⟩
        rw [← hpl] at KPv
        have Hpl := Lib.hid hpl
        have hzv : W1.heap.size ≤ wv.heap.size := hX1v.size
        have d0v := bDv.cell 0
        clear hpl
        go_upto_region 22 with (first
          | (with_reducible refine wpL_load_row rfl 49 (.tmp 5) rfl g5 49 _ 3 rfl bFv fil_wide (fil_size _ _ _ _ _) ?_)
          | (go_at_call 40; (with_reducible refine (KPv.out).mono ?_); rintro e w9 ⟨A9, c9, rfl, hx9, ho9⟩; have c0 := (BlkE bDv hx9).cell 0; have z0 := (BlkE bDv hx9).frozen 0))
        have q1 := Blk_eq (BlkS (i := 0) (u := .slice A9 pl c9) (BlkE bDv hx9)) (cs' := #[.slice A9 pl c9, .int .i64 r1, .int .i64 r2, .bool r3, .int .i64 r4, .int .i64 r5]) rfl
        have q2 := BlkF (p := ⟨w.heap.size, 0, none⟩) (u := .slice A9 pl c9) (show w.heap.size + 1 + 1 ≠ w.heap.size by omega) (BlkE b2v hx9)
        clear c0 z0 d0v
        go_wp2_with (first
          | (with_reducible refine wpL_load_row rfl 28 (.tmp 2) rfl w.heap.size 28 _ 6 rfl q1 disk_wide (dk_size _ _ _ _ _ _ _ _) ?_)
          | (with_reducible refine wpL_store_row rfl 28 (.tmp 4) (.tmp 83) rfl (w.heap.size + 1 + 1) 28 _ _ rfl rfl q2 ((dk_size _ _ _ _ _ _ _ _).trans (dk_size _ _ _ _ _ _ _ _).symm) (dk_one _ _ _ _ _ _ _ _) 6 disk_wide (dk_size _ _ _ _ _ _ _ _) ?_))
        refine bodyPost_ret (res_row rfl _ _ (w.heap.size + 1 + 1) 28 _ 6 rfl (Blk.setRow_ q2) disk_wide rfl) rfl ?_
        have hXf : Ext w ((w9.setCell ⟨w.heap.size, 0, none⟩ (.slice A9 pl c9)).setRow (w.heap.size + 1 + 1) #[.slice A9 pl c9, .int .i64 r1, .int .i64 r2, .bool r3, .int .i64 r4, .int .i64 r5]) := ExtR (by omega) (ExtS (Nat.le_refl _) (hXv.tr hx9))
        have hz9 := HZ1.out
        have ho9' := own_setRow (g := w.heap.size + 1 + 1) (ds := #[.slice A9 pl c9, .int .i64 r1, .int .i64 r2, .bool r3, .int .i64 r4, .int .i64 r5]) (by omega) (own_setCell (p := ⟨w.heap.size, 0, none⟩) (u := .slice A9 pl c9) (by dsimp only; omega) ho9)
        refine ch_end (B1 := wv.heap.size) (l := putH (⟨nm', fb.take m, (m : Nat)⟩, A8, c8) (takeH hs0 nm')) rfl Hpl.out ?_ hXf hB (by omega) ho9' (fun x hx => ?_)
        · rw [put_fv]
          (first | rw [take_fv, take_fv] | rw [take_fv])
          exact HCV.out
        rcases putH_mem hx with rfl | hx
        · rcases HDv.out with h | ⟨y, hy, h1, h2⟩
          · exact .inr (.inl (own_base (own_setRow (g := w.heap.size + 1 + 1) (by omega) (own_setCell (p := ⟨w.heap.size, 0, none⟩) (by dsimp only; omega) (own_ext hx9 h))) (by omega)))
          · exact .inr (.inr ⟨own_ext hXf h2, y, hy, h1⟩)
        · exact .inl ⟨takeH_mem hx, own_ext hXf (HR.out.2 x (takeH_mem hx))⟩
      · have t1 : decide ((m : Int) < sf) = false := by simpa using hsm
        go_upto_region 21 with fail
        obtain ⟨wv, hwv⟩ : ∃ wv, wv = wx := ⟨_, rfl⟩
        rw [← hwv] at bFu bDu b2u rowu hX1u hou2 ⊢
        clear x2 xy2 xo hwv
        have bFv := bFu
        have bDv := bDu
        have b2v := b2u
        have rowv := rowu
        have hX1v := hX1u
        have hXv : Ext w wv := HX1.out.tr hX1v
        have HDv : Hid (wv.ownsRow W1.heap.size 5 1 (.slice A8 (fb.take m).length c8) (fb.take m).length (u8s (fb.take m)) ∨ ∃ y ∈ hs0, y.2.1 = A8 ∧ w.ownsRow B0 5 1 (.slice A8 (fb.take m).length c8) (fb.take m).length (u8s (fb.take m))) := Lib.hid (.inl (by rw [Hmt.out]; exact own_base hou2 hzt))
        have HCV : Hid (putV ⟨nm', fb.take m, sf⟩ (takeV (hs0.map (·.1)) nm') = chV (hs0.map (·.1)) ⟨nm', fb, sf⟩ ⟨5, nm', tg, bs, (m : Nat), M, keep⟩) := Lib.hid (by
          show _ = putV ⟨nm', fb.take ((m : Nat) : Int).toNat, min sf (m : Nat)⟩ _
          rw [Int.toNat_natCast, show min sf (m : Int) = sf by omega])
        clear bFu bDu b2u rowu hX1u hou2
        have KPv : Hid (Calls Try.prog 40 #[.slice A6 tl c6, .agg #[.string nm', .slice A8 m c8, .int .i64 sf]] wv (GaveH wv (putH (⟨nm', fb.take m, sf⟩, A8, c8) (takeH hs0 nm')))) := Lib.hid (by
          have h9 := rput_any A6 tl c6 (takeH hs0 nm') ⟨nm', fb.take m, sf⟩ A8 c8 wv (RdN.of_own rowv) (by omega)
          dsimp only at h9
          rw [HLn.out] at h9
          exact h9)
        unfold GaveH at KPv
        obtain ⟨pl, hpl⟩ : ∃ pl, pl = (putH (⟨nm', fb.take m, sf⟩, A8, c8) (takeH hs0 nm')).length := ⟨_, rfl⟩
        rw [← hpl] at KPv
        have Hpl := Lib.hid hpl
        have hzv : W1.heap.size ≤ wv.heap.size := hX1v.size
        have d0v := bDv.cell 0
        clear hpl
        go_upto_region 22 with (first
          | (with_reducible refine wpL_load_row rfl 49 (.tmp 5) rfl g5 49 _ 3 rfl bFv fil_wide (fil_size _ _ _ _ _) ?_)
          | (go_at_call 40; (with_reducible refine (KPv.out).mono ?_); rintro e w9 ⟨A9, c9, rfl, hx9, ho9⟩; have c0 := (BlkE bDv hx9).cell 0; have z0 := (BlkE bDv hx9).frozen 0))
        have q1 := Blk_eq (BlkS (i := 0) (u := .slice A9 pl c9) (BlkE bDv hx9)) (cs' := #[.slice A9 pl c9, .int .i64 r1, .int .i64 r2, .bool r3, .int .i64 r4, .int .i64 r5]) rfl
        have q2 := BlkF (p := ⟨w.heap.size, 0, none⟩) (u := .slice A9 pl c9) (show w.heap.size + 1 + 1 ≠ w.heap.size by omega) (BlkE b2v hx9)
        clear c0 z0 d0v
        go_wp2_with (first
          | (with_reducible refine wpL_load_row rfl 28 (.tmp 2) rfl w.heap.size 28 _ 6 rfl q1 disk_wide (dk_size _ _ _ _ _ _ _ _) ?_)
          | (with_reducible refine wpL_store_row rfl 28 (.tmp 4) (.tmp 83) rfl (w.heap.size + 1 + 1) 28 _ _ rfl rfl q2 ((dk_size _ _ _ _ _ _ _ _).trans (dk_size _ _ _ _ _ _ _ _).symm) (dk_one _ _ _ _ _ _ _ _) 6 disk_wide (dk_size _ _ _ _ _ _ _ _) ?_))
        refine bodyPost_ret (res_row rfl _ _ (w.heap.size + 1 + 1) 28 _ 6 rfl (Blk.setRow_ q2) disk_wide rfl) rfl ?_
        have hXf : Ext w ((w9.setCell ⟨w.heap.size, 0, none⟩ (.slice A9 pl c9)).setRow (w.heap.size + 1 + 1) #[.slice A9 pl c9, .int .i64 r1, .int .i64 r2, .bool r3, .int .i64 r4, .int .i64 r5]) := ExtR (by omega) (ExtS (Nat.le_refl _) (hXv.tr hx9))
        have hz9 := HZ1.out
        have ho9' := own_setRow (g := w.heap.size + 1 + 1) (ds := #[.slice A9 pl c9, .int .i64 r1, .int .i64 r2, .bool r3, .int .i64 r4, .int .i64 r5]) (by omega) (own_setCell (p := ⟨w.heap.size, 0, none⟩) (u := .slice A9 pl c9) (by dsimp only; omega) ho9)
        refine ch_end (B1 := wv.heap.size) (l := putH (⟨nm', fb.take m, sf⟩, A8, c8) (takeH hs0 nm')) rfl Hpl.out ?_ hXf hB (by omega) ho9' (fun x hx => ?_)
        · rw [put_fv]
          (first | rw [take_fv, take_fv] | rw [take_fv])
          exact HCV.out
        rcases putH_mem hx with rfl | hx
        · rcases HDv.out with h | ⟨y, hy, h1, h2⟩
          · exact .inr (.inl (own_base (own_setRow (g := w.heap.size + 1 + 1) (by omega) (own_setCell (p := ⟨w.heap.size, 0, none⟩) (by dsimp only; omega) (own_ext hx9 h))) (by omega)))
          · exact .inr (.inr ⟨own_ext hXf h2, y, hy, h1⟩)
        · exact .inl ⟨takeH_mem hx, own_ext hXf (HR.out.2 x (takeH_mem hx))⟩
end Go.Proofs.Ytdoaniimfhpjhaa
