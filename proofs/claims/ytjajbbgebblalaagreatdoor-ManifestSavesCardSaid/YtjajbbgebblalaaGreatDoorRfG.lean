/-
  The document's disk: change, a step on a file that is there.
-/
/-
  The document's disk: barred and change, held against the program's disk; what Do answers.
-/
/-
  The document's disk: Do.
-/
/-
  The document's disk: Do, the calls on a file.
-/
/-
  The document's disk: Do, whole; what the getters tell (told).
-/
/-
  What the getters tell of a disk, held against the document's (told).
-/
import Derived.Test.YtjajbbgebblalaaGreatDoorRfP
import Derived.Test.YtjajbbgebblalaaGreatDoorHand
import Derived.Deep.CutRange
import Derived.Test.YtjajbbgebblalaaGreatDoorOpA
import Derived.Test.YtjajbbgebblalaaGreatDoorFsT
import Derived.Deep.QuietTactic
import Derived.BigQuiet
namespace Go.Proofs.YtjajbbgebblalaaGreatDoor
open Go.RowKit
set_option linter.unusedVariables false
set_option linter.unusedSimpArgs false
theorem fil_size (nm : ByteArray) (A : Option Addr) (n c : Nat) (s : Int) : (#[.string nm, .slice A n c, .int .i64 s] : Array Value).size = 3 := rfl
theorem fil_one (nm : ByteArray) (A : Option Addr) (n c : Nat) (s : Int) : ∀ v ∈ (#[.string nm, .slice A n c, .int .i64 s] : Array Value).toList, v.oneCell' = true := by
  intro v hv
  simp at hv
  rcases hv with rfl | rfl | rfl <;> rfl
theorem own_setT {w : World} {base g i : Nat} {e t : TypeId} {s n : Nat} {v u : Value} {xs : List Value} {cs : Array Value} (h : w.ownsRow base e s v n xs) (hb : Blk w g t cs) (ht : t ≠ e) : (w.setCell ⟨g, i, none⟩ u).ownsRow base e s v n xs := by
  refine own_heap h fun k hk => Below.heap_setCell w ⟨g, i, none⟩ u k (fun hc => ?_)
  rcases h.2 with ⟨rfl, _⟩ | ⟨g2, cap, cur, rfl, _, hg2, _⟩
  · cases hk
  · simp only [Value.ownBlock, Option.some.injEq] at hk
    subst hk
    rw [hc] at hg2
    have hb2 : w.heap[g]? = some (.cells cs t (0, 0)) := hb
    rw [hb2] at hg2
    injection hg2 with hg2
    injection hg2 with _ hg2
    exact ht hg2
theorem step_skip {P : Program} {w : World} {ops : Array Oper} {o : Oper} {a : Act} {K : Act → World → Prop} {Q : Exit → Act → World → Prop} {E : Prop} (hgd : o.guard = none) (d : Option Tmp) (hd : o.dst = d) (w2 : World)
    (hr : (execOp a.eval o).run P w = .ok .skip w2) (hK : K (a.put d undef) w2) : if Region.wanted o (yielded ops a.tmps) = true then Oper.wp P o a w K Q else E := by
  subst hd
  have hwt : Region.wanted o (yielded ops a.tmps) = true := by simp [Region.wanted, hgd]
  rw [if_pos hwt]
  unfold Oper.wp
  rw [hr]
  exact hK
theorem step_appendG {ops : Array Oper} {o : Oper} {a : Act} {w : World} {K : Act → World → Prop} {Q : Exit → Act → World → Prop} {E : Prop} (hgd : o.guard = none) (d : Option Tmp) (hd : o.dst = d) (s x : Operand)
    (ho : o.op = .call { callee := .builtin .append, args := #[s, x], argTypes := #[36, 36] }) (base : Nat) (hbase : base ≤ w.heap.size)
    {A0 : Option Addr} {n0 c0 : Nat} {l : List UInt8} (hs : a.eval s = .slice A0 n0 c0) (hown : w.ownsRow base 5 1 (.slice A0 n0 c0) n0 (u8s l))
    {A : Option Addr} {m c : Nat} {news : List UInt8} (hx : a.eval x = .slice A m c) (hr : Rd w A m (u8s news)) (hb : n0 + m ≤ 140737488355328)
    (hK : ∀ A' c' w', w'.ownsRow base 5 1 (.slice A' (n0 + m) c') (n0 + m) (u8s (l ++ news)) → w.grownBy w' (Value.slice A0 n0 c0).ownBlock → K (a.put d (.slice A' (n0 + m) c')) w') :
    if Region.wanted o (yielded ops a.tmps) = true then Oper.wp Tryz.prog o a w K Q else E := by
  subst hd
  have hw : Region.wanted o (yielded ops a.tmps) = true := by simp [Region.wanted, hgd]
  rw [if_pos hw]
  obtain ⟨v', w', hrun, hown', hg, _⟩ := run_append_rd (P := Tryz.prog) base 36 o.type 5 _ 1 1 Tryz.underlying36 el_u8 _ n0 _ hown A m c _ hr.toN (one_u8 _) (by simp only [maxLen]; omega) (by omega) hbase
  obtain ⟨A', c', rfl⟩ := own_slice hown'
  rw [← u8s_app] at hown'
  unfold Oper.wp execOp
  simp only [ho, resolve, invoke, builtin, Sem.run_bind, Sem.run_pure, Result.andThen_ok, List.map_toArray, List.map_cons, List.map_nil, hs, hx, hrun]
  exact hK A' c' w' hown' hg
theorem takeH_mem {x : HV} {l : List HV} {nm : ByteArray} (h : x ∈ takeH l nm) : x ∈ l := (List.mem_filter.1 h).1
theorem takeH_len (l : List HV) (nm : ByteArray) : (takeH l nm).length ≤ l.length := List.length_filter_le _ _
set_option maxRecDepth 100000 in
set_option maxHeartbeats 8000000 in
theorem rchangeK (K : Int) (hK : K = 1 ∨ K = 2 ∨ K = 3 ∨ K = 4 ∨ K = 5) (A : Option Addr) (n c B0 : Nat) (hs0 : List HV) (r1 r2 r4 r5 : Int) (r3 : Bool) (nm tg : ByteArray) (Bb : Option Addr) (bl bc : Nat) (bs : List UInt8) (N M : Int) (AK : Option Addr) (kl kc : Nat) (keep : List Int) (w : World) (hr : OwnFl w B0 A n c hs0) (hB : B0 ≤ w.heap.size) (hn : n ≤ 700)
    (k : Nat) (f : FV) (ha : atI (hs0.map (·.1)) nm = (k : Nat)) (hf : (hs0.map (·.1))[k]? = some f) (hnm : f.name = nm) (hok : FvOk f) (hbs : Rd w Bb bl (u8s bs)) (hbl : K = 1 → bl ≤ 140737488355328 - 67108864) (hN : K = 5 → 0 ≤ N ∧ N ≤ (f.data.length : Nat)) :
    Calls Tryz.prog 59 #[.agg #[.slice A n c, .int .i64 r1, .int .i64 r2, .bool r3, .int .i64 r4, .int .i64 r5], .agg #[.int .i64 K, .string nm, .string tg, .slice Bb bl bc, .int .i64 N, .int .i64 M, .slice AK kl kc]] w (ChPost w B0 A hs0 (chV (hs0.map (·.1)) f ⟨K, nm, tg, bs, N, M, keep⟩) r1 r2 r4 r5 r3) := by
  have HR := Lib.hid hr
  have hl0 := hr.len
  have hkn : k < n := by have := (List.getElem?_eq_some_iff.1 hf).1; rw [List.length_map] at this; omega
  obtain ⟨b, o, f2, Af, cf, hfk, rfl, hc0, hof⟩ := ownfl_at hr hkn
  have hf2 : f2 = f := by
    rw [List.getElem?_map, hfk] at hf
    injection hf
  subst hf2
  have hcf := own_le' hof
  have Hfk := Lib.hid hfk
  have Hha := Lib.hid ha
  obtain ⟨nm', fb, sf⟩ := f2
  dsimp only at hnm hok hof hcf hN
  subst hnm
  unfold FvOk at hok
  dsimp only at hok
  obtain ⟨n0, hn0⟩ : ∃ n0, n0 = fb.length := ⟨_, rfl⟩
  have Hn0 := Lib.hid hn0
  have hcc : w.rangeAt b (o + k * 3) [.string nm', .slice Af n0 cf, .int .i64 sf] := by rw [hn0]; exact hc0
  rw [← hn0] at hok hcf hN
  have Hof := Lib.hid hof
  have HBS := Lib.hid hbs
  have KA := Lib.hid fun W (hx : Ext w W) => rat_any (some ⟨b, o, none⟩) n c (hs0.map (·.1)) r1 r2 r4 r5 r3 nm' W (hr.ext hx).rd (by simp only [maxLen]; omega)
  rw [ha] at KA
  have KT := Lib.hid fun W (hx : Ext w W) => rtake_any (some ⟨b, o, none⟩) n c hs0 nm' W (RdN.of_own (hr.ext hx).1) (by omega)
  unfold GaveH at KT
  obtain ⟨tl, htl⟩ : ∃ tl, tl = (takeH hs0 nm').length := ⟨_, rfl⟩
  have htn : tl ≤ 700 := by rw [htl]; exact Nat.le_trans (takeH_len _ _) (by omega)
  rw [← htl] at KT
  have Htl := Lib.hid htl
  have HCC := Lib.hid hcc
  have K0 : (K == 0) = false := by simp; omega
  clear hr hl0 hfk hc0 hof hf ha hn0 hcc hbs htl
  go_enter Tryz.func59, Tryz.ntmps59
  go_upto_region 4 with fail
  obtain ⟨W1, hW1⟩ : ∃ W1, W1 = ((w.alloc (.cells #[.slice (some ⟨b, o, none⟩) n c, .int .i64 r1, .int .i64 r2, .bool r3, .int .i64 r4, .int .i64 r5] 28)).alloc (.cells #[.int .i64 K, .string nm', .string tg, .slice Bb bl bc, .int .i64 N, .int .i64 M, .slice AK kl kc] 44)).alloc (.cells #[.slice none 0 0, .int .i64 0, .int .i64 0, .bool false, .int .i64 0, .int .i64 0] 28) := ⟨_, rfl⟩
  have B1 : Hid (Blk W1 w.heap.size 28 #[.slice (some ⟨b, o, none⟩) n c, .int .i64 r1, .int .i64 r2, .bool r3, .int .i64 r4, .int .i64 r5]) := Lib.hid (by rw [hW1]; exact BlkA (BlkA (BlkN rfl)))
  have B2 : Hid (Blk W1 (w.heap.size + 1 + 1) 28 #[.slice none 0 0, .int .i64 0, .int .i64 0, .bool false, .int .i64 0, .int .i64 0]) := Lib.hid (by rw [hW1]; exact BlkN (by simp))
  have BO : Hid (Blk W1 (w.heap.size + 1) 44 #[.int .i64 K, .string nm', .string tg, .slice Bb bl bc, .int .i64 N, .int .i64 M, .slice AK kl kc]) := Lib.hid (by rw [hW1]; exact BlkA (BlkN (by simp)))
  have HX1 : Hid (Ext w W1) := Lib.hid (by rw [hW1]; exact ExtA (ExtA (ExtA (Ext.rfl' w))))
  have hz1 : Hid (w.heap.size + 1 + 1 < W1.heap.size) := Lib.hid B2.out.lt
  rw [← hW1]
  clear hW1
  go_cut [5] (fun v5 wc => ∃ g5, v5 = .pointer (some ⟨g5, 0, none⟩) ∧ W1.heap.size ≤ g5 ∧ Ext W1 wc ∧ Blk wc g5 58 #[.string nm', .slice Af n0 cf, .int .i64 sf])
  case first =>
    have k0 := B1.out.cell 0
    have k1 := B1.out.cell 1
    have k2 := B1.out.cell 2
    have k3 := B1.out.cell 3
    have k4 := B1.out.cell 4
    have k5 := B1.out.cell 5
    have ko := BO.out.cell 1
    have hc := range_ext HCC.out HX1.out
    have e0 := hc 0 _ rfl
    have e1 := hc 1 _ rfl
    have e2 := hc 2 _ rfl
    simp only [Nat.add_zero] at e0
    have KA1 := Lib.hid fun W (hx : Ext W1 W) => KA.out W (HX1.out.tr hx)
    clear KA KT HBS Hof HCC HR Hfk hN K0 hK
    clear hc B1 B2 BO HX1 hz1
    -- REGION4
    refine wp_region_held_drew (S := fun w' => Ext W1 w') (by kernel_rfl) (ExtD (Ext.rfl' _)) (fun hS => ?_)
    refine takeD (some 18) (i := 0) (oi := ⟨some 18, _, _, _, _, _⟩) (v := .pointer (some ⟨w.heap.size, 0, none⟩)) rfl rfl (by kernel_rfl) (by kernel_rfl) (by kernel_rfl) (fun _ _ _ h => h) (Or.inl ⟨by kernel_rfl, fun w hw => by go_simp⟩) hS ?_; (try simp only [Act.put, List.setIfInBounds_toArray, List.set_cons_zero, List.set_cons_succ])
    refine takeD (some 19) (i := 1) (oi := ⟨some 19, _, _, _, _, _⟩) (v := .slice (some ⟨b, o, none⟩) n c) rfl rfl (by kernel_rfl) (by kernel_rfl) (by kernel_rfl) (fun _ _ _ h => h) (Or.inl ⟨by kernel_rfl, fun w hw => by have hc0 := Ext.cell hw k0; go_simp⟩) hS ?_; (try simp only [Act.put, List.setIfInBounds_toArray, List.set_cons_zero, List.set_cons_succ])
    refine takeD (some 20) (i := 2) (oi := ⟨some 20, _, _, _, _, _⟩) (v := .agg #[.slice (some ⟨b, o, none⟩) n c, .int .i64 r1, .int .i64 r2, .bool r3, .int .i64 r4, .int .i64 r5]) rfl rfl (by kernel_rfl) (by kernel_rfl) (by kernel_rfl) (fun _ _ _ h => h) (Or.inl ⟨by kernel_rfl, fun w hw => by have hc0 := Ext.cell hw k0; have hc1 := Ext.cell hw k1; have hc2 := Ext.cell hw k2; have hc3 := Ext.cell hw k3; have hc4 := Ext.cell hw k4; have hc5 := Ext.cell hw k5; go_simp⟩) hS ?_; (try simp only [Act.put, List.setIfInBounds_toArray, List.set_cons_zero, List.set_cons_succ])
    refine takeD (some 21) (i := 3) (oi := ⟨some 21, _, _, _, _, _⟩) (v := .pointer (some ⟨w.heap.size + 1, 1, none⟩)) rfl rfl (by kernel_rfl) (by kernel_rfl) (by kernel_rfl) (fun _ _ _ h => h) (Or.inl ⟨by kernel_rfl, fun w hw => by go_simp⟩) hS ?_; (try simp only [Act.put, List.setIfInBounds_toArray, List.set_cons_zero, List.set_cons_succ])
    refine takeD (some 22) (i := 4) (oi := ⟨some 22, _, _, _, _, _⟩) (v := .string nm') rfl rfl (by kernel_rfl) (by kernel_rfl) (by kernel_rfl) (fun _ _ _ h => h) (Or.inl ⟨by kernel_rfl, fun w hw => by have hc0 := Ext.cell hw ko; go_simp⟩) hS ?_; (try simp only [Act.put, List.setIfInBounds_toArray, List.set_cons_zero, List.set_cons_succ])
    refine wpAnyH_ready (rs := [5, 8]) (by kernel_rfl) (by simp) (AllReadyH.cons (o := ⟨some 23, _, _, _, _, _⟩) rfl (fun K hK => ?_) (AllReadyH.cons (o := ⟨some 5, _, _, _, _, _⟩) rfl (fun K hK => ?_) (AllReadyH.nil)))
    · refine step_callG rfl (some 23) rfl 24 _ Tryz.func24 (by kernel_rfl) (by kernel_rfl) _ _ rfl #[.agg #[.slice (some ⟨b, o, none⟩) n c, .int .i64 r1, .int .i64 r2, .bool r3, .int .i64 r4, .int .i64 r5], .string nm'] (by first | rfl | simp [Act.eval, Act.put]) _ (KA1.out _ hS) ?_; rintro e w2 ⟨rfl, hx2⟩; refine ⟨_, rfl, hK.out _ _ (Ext.tr hS hx2) ?_⟩; intro hS; clear hK; (try simp only [Act.put, List.setIfInBounds_toArray, List.set_cons_zero, List.set_cons_succ])
      refine takeD (some 24) (i := 6) (oi := ⟨some 24, _, _, _, _, _⟩) (v := .pointer (some ⟨b, o + k * 3, none⟩)) rfl rfl (by kernel_rfl) (by kernel_rfl) (by kernel_rfl) (fun _ _ _ h => h) (Or.inl ⟨by kernel_rfl, fun w hw => by go_simp⟩) hS ?_; (try simp only [Act.put, List.setIfInBounds_toArray, List.set_cons_zero, List.set_cons_succ])
      refine takeD (some 25) (i := 7) (oi := ⟨some 25, _, _, _, _, _⟩) (v := .agg #[.string nm', .slice Af n0 cf, .int .i64 sf]) rfl rfl (by kernel_rfl) (by kernel_rfl) (by kernel_rfl) (fun _ _ _ h => h) (Or.inl ⟨by kernel_rfl, fun w hw => by have hc0 := Ext.cell hw e0; have hc1 := Ext.cell hw e1; have hc2 := Ext.cell hw e2; go_simp⟩) hS ?_; (try simp only [Act.put, List.setIfInBounds_toArray, List.set_cons_zero, List.set_cons_succ])
      refine wpAnyH_ready (rs := [8]) (by kernel_rfl) (by simp) (AllReadyH.cons (o := ⟨some 5, _, _, _, _, _⟩) rfl (fun K hK => ?_) (AllReadyH.nil))
      refine step_alloc rfl (some 5) rfl 58 rfl _ alloc_fil ?_; intro g5 w5 hg5 hxg5 bn; have hgn := Nat.le_trans (Below.size hS) hg5; refine hK.out _ _ (Ext.tr hS hxg5) ?_; intro hS; clear hK; (try simp only [Act.put, List.setIfInBounds_toArray, List.set_cons_zero, List.set_cons_succ])
      refine wpAnyH_ready (rs := [9]) (by kernel_rfl) (by simp) (AllReadyH.cons (o := ⟨none, _, _, _, _, _⟩) rfl (fun K hK => ?_) (AllReadyH.nil))
      refine step_store rfl none rfl 58 (.tmp 5) (.tmp 25) rfl g5 58 _ #[.string nm', .slice Af n0 cf, .int .i64 sf] rfl rfl bn rfl (fil_one _ _ _ _ _) 3 fil_wide rfl ?_; intro w6 c14 hkeep hext; refine hK.out _ _ (hext _ hgn hS) ?_; intro hS; clear hkeep hext hK; (try simp only [Act.put, List.setIfInBounds_toArray, List.set_cons_zero, List.set_cons_succ])
      refine wpAnyH_done (by kernel_rfl) ?_ _
      go_wp2_with fail
      go_meet
      case rel => exact ⟨g5, rfl, hgn, hS, c14⟩
    · refine step_alloc rfl (some 5) rfl 58 rfl _ alloc_fil ?_; intro g5 w5 hg5 hxg5 bn; have hgn := Nat.le_trans (Below.size hS) hg5; refine hK.out _ _ (Ext.tr hS hxg5) ?_; intro hS; clear hK; (try simp only [Act.put, List.setIfInBounds_toArray, List.set_cons_zero, List.set_cons_succ])
      refine wpAnyH_ready (rs := [5]) (by kernel_rfl) (by simp) (AllReadyH.cons (o := ⟨some 23, _, _, _, _, _⟩) rfl (fun K hK => ?_) (AllReadyH.nil))
      refine step_callG rfl (some 23) rfl 24 _ Tryz.func24 (by kernel_rfl) (by kernel_rfl) _ _ rfl #[.agg #[.slice (some ⟨b, o, none⟩) n c, .int .i64 r1, .int .i64 r2, .bool r3, .int .i64 r4, .int .i64 r5], .string nm'] (by first | rfl | simp [Act.eval, Act.put]) _ (KA1.out _ hS) ?_; rintro e w2 ⟨rfl, hx2⟩; refine ⟨_, rfl, hK.out _ _ (Ext.tr hS hx2) ?_⟩; intro hS; clear hK; (try simp only [Act.put, List.setIfInBounds_toArray, List.set_cons_zero, List.set_cons_succ])
      refine takeD (some 24) (i := 6) (oi := ⟨some 24, _, _, _, _, _⟩) (v := .pointer (some ⟨b, o + k * 3, none⟩)) rfl rfl (by kernel_rfl) (by kernel_rfl) (by kernel_rfl) (fun _ _ _ h => h) (Or.inl ⟨by kernel_rfl, fun w hw => by go_simp⟩) hS ?_; (try simp only [Act.put, List.setIfInBounds_toArray, List.set_cons_zero, List.set_cons_succ])
      refine takeD (some 25) (i := 7) (oi := ⟨some 25, _, _, _, _, _⟩) (v := .agg #[.string nm', .slice Af n0 cf, .int .i64 sf]) rfl rfl (by kernel_rfl) (by kernel_rfl) (by kernel_rfl) (fun _ _ _ h => h) (Or.inl ⟨by kernel_rfl, fun w hw => by have hc0 := Ext.cell hw e0; have hc1 := Ext.cell hw e1; have hc2 := Ext.cell hw e2; go_simp⟩) hS ?_; (try simp only [Act.put, List.setIfInBounds_toArray, List.set_cons_zero, List.set_cons_succ])
      refine wpAnyH_ready (rs := [9]) (by kernel_rfl) (by simp) (AllReadyH.cons (o := ⟨none, _, _, _, _, _⟩) rfl (fun K hK => ?_) (AllReadyH.nil))
      refine step_store rfl none rfl 58 (.tmp 5) (.tmp 25) rfl g5 58 _ #[.string nm', .slice Af n0 cf, .int .i64 sf] rfl rfl (BlkE bn hx2) rfl (fil_one _ _ _ _ _) 3 fil_wide rfl ?_; intro w6 c14 hkeep hext; refine hK.out _ _ (hext _ hgn hS) ?_; intro hS; clear hkeep hext hK; (try simp only [Act.put, List.setIfInBounds_toArray, List.set_cons_zero, List.set_cons_succ])
      refine wpAnyH_done (by kernel_rfl) ?_ _
      go_wp2_with fail
      go_meet
      case rel => exact ⟨g5, rfl, hgn, hS, c14⟩
    -- END4
  case rest =>
    obtain ⟨g5, rfl, hg5, hxc, bf⟩ := hcut
    have hXc := HX1.out.tr hxc
    have hg5c : g5 < wc.heap.size := bf.lt
    have d0 := (BlkE B1.out hxc).cell 0
    have d1 := (BlkE BO.out hxc).cell 1
    go_upto_region 6 with (first | (go_at_call 109; (with_reducible refine (KT.out _ hXc).mono ?_); rintro e wt ⟨A6, c6, rfl, hxt, hot⟩))
    have hXt := hXc.tr hxt
    have hX1t := hxc.tr hxt
    have bF := BlkE bf hxt
    have BD := Lib.hid (BlkE B1.out hX1t)
    have BOt := Lib.hid (BlkE BO.out hX1t)
    have B2t := Lib.hid (BlkE B2.out hX1t)
    have hzt : W1.heap.size ≤ wt.heap.size := hX1t.size
    have o0 := BOt.out.cell 0
    have HZ1 := Lib.hid hz1.out
    clear d0 d1 bf KA KT B1 B2 hz1 hxt hxc K0 HCC
    go_upto_region 7 with fail
    have hmk := List.mem_of_getElem? Hfk.out
    rcases hK with rfl | rfl | rfl | rfl | rfl
    · -- an append
      have hbl := hbl rfl
      have f1 := bF.cell 1
      have oW := BO.out.cell 3
      have KC := Lib.hid fun W (hx : Ext wt W) => copy_any Af n0 cf fb W (by rw [Hn0.out] at *; exact rd_own (own_ext (hXt.tr hx) Hof.out)) (by omega)
      unfold NewB at KC
      rw [← Hn0.out] at KC
      clear o0
      go_upto_region 8 with fail
      -- REGION8
      refine wp_region_held_drew (S := fun w' => Ext W1 w') (by kernel_rfl) (ExtD hX1t) (fun hS => ?_)
      refine takeD (some 35) (i := 0) (oi := ⟨some 35, _, _, _, _, _⟩) (v := .pointer (some ⟨g5, 1, none⟩)) rfl rfl (by kernel_rfl) (by kernel_rfl) (by kernel_rfl) (fun _ _ _ h => h) (Or.inl ⟨by kernel_rfl, fun w hw => by go_simp⟩) hS ?_; (try simp only [Act.put, List.setIfInBounds_toArray, List.set_cons_zero, List.set_cons_succ])
      refine takeD (some 38) (i := 3) (oi := ⟨some 38, _, _, _, _, _⟩) (v := .pointer (some ⟨w.heap.size + 1, 3, none⟩)) rfl rfl (by kernel_rfl) (by kernel_rfl) (by kernel_rfl) (fun _ _ _ h => h) (Or.inl ⟨by kernel_rfl, fun w hw => by go_simp⟩) hS ?_; (try simp only [Act.put, List.setIfInBounds_toArray, List.set_cons_zero, List.set_cons_succ])
      refine takeD (some 39) (i := 4) (oi := ⟨some 39, _, _, _, _, _⟩) (v := .slice Bb bl bc) rfl rfl (by kernel_rfl) (by kernel_rfl) (by kernel_rfl) (fun _ _ _ h => h) (Or.inl ⟨by kernel_rfl, fun w hw => by have hc0 := Ext.cell hw oW; go_simp⟩) hS ?_; (try simp only [Act.put, List.setIfInBounds_toArray, List.set_cons_zero, List.set_cons_succ])
      refine wpAnyH_ready (rs := [1]) (by kernel_rfl) (by simp) (AllReadyH.cons (o := ⟨some 36, _, _, _, _, _⟩) rfl (fun K hK => ?_) (AllReadyH.nil))
      refine step_run rfl (some 36) rfl (.slice Af n0 cf) wt.drew (by have hc := f1; go_simp) ?_; refine hK.out _ _ hS ?_; intro hS; clear hK; (try simp only [Act.put, List.setIfInBounds_toArray, List.set_cons_zero, List.set_cons_succ])
      refine wpAnyH_ready (rs := [2]) (by kernel_rfl) (by simp) (AllReadyH.cons (o := ⟨some 37, _, _, _, _, _⟩) rfl (fun K hK => ?_) (AllReadyH.nil))
      refine step_callG rfl (some 37) rfl 31 _ Tryz.func31 (by kernel_rfl) (by kernel_rfl) _ _ rfl #[.slice Af n0 cf] (by first | rfl | simp [Act.eval, Act.put]) _ (KC.out _ (ExtD (Ext.rfl' wt))) ?_; rintro e w2 ⟨A8, c8, rfl, hx2, hou⟩; refine ⟨_, rfl, hK.out _ _ (Ext.tr hS hx2) ?_⟩; intro hS; clear hK; (try simp only [Act.put, List.setIfInBounds_toArray, List.set_cons_zero, List.set_cons_succ])
      refine wpAnyH_ready (rs := [5]) (by kernel_rfl) (by simp) (AllReadyH.cons (o := ⟨some 40, _, _, _, _, _⟩) rfl (fun K hK => ?_) (AllReadyH.nil))
      refine step_appendG rfl (some 40) rfl (.tmp 37) (.tmp 39) rfl W1.heap.size (Below.size hS) rfl (own_base hou (by simp; omega)) rfl (HBS.out.ext (HX1.out.tr hS)) (by omega) ?_; intro A10 c10 w4 hov hg4; have hxw : Ext wt w4 := Ext.grown (Ext.tr (ExtD (Ext.rfl' wt)) hx2) hg4 (fun r hr => by have := (World.ownsRow.lt hou r hr).1; simpa using this); have hX4 : Ext W1 w4 := hX1t.tr hxw; refine hK.out _ _ hX4 ?_; intro hS; clear hK; (try simp only [Act.put, List.setIfInBounds_toArray, List.set_cons_zero, List.set_cons_succ])
      refine takeD (some 41) (i := 6) (oi := ⟨some 41, _, _, _, _, _⟩) (v := .pointer (some ⟨g5, 1, none⟩)) rfl rfl (by kernel_rfl) (by kernel_rfl) (by kernel_rfl) (fun _ _ _ h => h) (Or.inl ⟨by kernel_rfl, fun w hw => by go_simp⟩) hS ?_; (try simp only [Act.put, List.setIfInBounds_toArray, List.set_cons_zero, List.set_cons_succ])
      have b4 := BlkE bF hxw
      have z1 := b4.cell 1
      have z2 := b4.frozen 1
      refine wpAnyH_ready (rs := [7]) (by kernel_rfl) (by simp) (AllReadyH.cons (o := ⟨none, _, _, _, _, _⟩) rfl (fun K hK => ?_) (AllReadyH.nil))
      refine step_skip rfl none rfl (w4.setCell ⟨g5, 1, none⟩ (.slice A10 (n0 + bl) c10)) (by unfold execOp; go_simp) ?_; refine hK.out _ _ (ExtS hg5 hX4) ?_; intro hS; clear hK; (try simp only [Act.put, List.setIfInBounds_toArray, List.set_cons_zero, List.set_cons_succ])
      refine wpAnyH_done (by kernel_rfl) ?_ _
      -- END8
      have bFv := Blk_eq (BlkS (i := 1) (u := .slice A10 (n0 + bl) c10) b4) (cs' := #[.string nm', .slice A10 (n0 + bl) c10, .int .i64 sf]) rfl
      have bDv := BlkF (p := ⟨g5, 1, none⟩) (u := .slice A10 (n0 + bl) c10) (show w.heap.size ≠ g5 by have := HZ1.out; omega) (BlkE BD.out hxw)
      have b2v := BlkF (p := ⟨g5, 1, none⟩) (u := .slice A10 (n0 + bl) c10) (show w.heap.size + 1 + 1 ≠ g5 by have := HZ1.out; omega) (BlkE B2t.out hxw)
      have rowv := own_setCell (p := ⟨g5, 1, none⟩) (u := .slice A10 (n0 + bl) c10) hg5c (own_ext hxw hot)
      have hov2 := own_setT (i := 1) (u := .slice A10 (n0 + bl) c10) hov b4 (by decide)
      have hX1v : Ext W1 (w4.setCell ⟨g5, 1, none⟩ (.slice A10 (n0 + bl) c10)) := ExtS hg5 hX4
      have hXv : Ext w (w4.setCell ⟨g5, 1, none⟩ (.slice A10 (n0 + bl) c10)) := HX1.out.tr hX1v
      have hbl2 : bs.length = bl := by have := HBS.out.1; rw [u8s_len] at this; exact this
      have HLn : Hid ((fb ++ bs).length = n0 + bl) := Lib.hid (by rw [List.length_append, hbl2, ← Hn0.out])
      go_upto_region 21 with fail
      generalize w4.setCell ⟨g5, 1, none⟩ (.slice A10 (n0 + bl) c10) = wv at *
      have HDv : Hid (wv.ownsRow W1.heap.size 5 1 (.slice A10 (fb ++ bs).length c10) (fb ++ bs).length (u8s (fb ++ bs)) ∨ ∃ y ∈ hs0, y.2.1 = A10 ∧ w.ownsRow B0 5 1 (.slice A10 (fb ++ bs).length c10) (fb ++ bs).length (u8s (fb ++ bs))) := Lib.hid (.inl (by rw [HLn.out]; exact hov2))
      have HCV : Hid (putV ⟨nm', fb ++ bs, sf⟩ (takeV (hs0.map (·.1)) nm') = chV (hs0.map (·.1)) ⟨nm', fb, sf⟩ ⟨1, nm', tg, bs, N, M, keep⟩) := Lib.hid rfl
      clear f1 oW z1 z2 b4 hov hov2 hx2 hou hxw hX4 hS hg4 hot
      have KPv : Hid (Calls Tryz.prog 50 #[.slice A6 tl c6, .agg #[.string nm', .slice A10 (n0 + bl) c10, .int .i64 sf]] wv (GaveH wv (putH (⟨nm', fb ++ bs, sf⟩, A10, c10) (takeH hs0 nm')))) := Lib.hid (by
        have h9 := rput_any A6 tl c6 (takeH hs0 nm') ⟨nm', fb ++ bs, sf⟩ A10 c10 wv (RdN.of_own rowv) (by omega)
        dsimp only at h9
        rw [HLn.out] at h9
        exact h9)
      unfold GaveH at KPv
      obtain ⟨pl, hpl⟩ : ∃ pl, pl = (putH (⟨nm', fb ++ bs, sf⟩, A10, c10) (takeH hs0 nm')).length := ⟨_, rfl⟩
      rw [← hpl] at KPv
      have Hpl := Lib.hid hpl
      have hzv : W1.heap.size ≤ wv.heap.size := hX1v.size
      have d0v := bDv.cell 0
      clear hpl
      go_upto_region 22 with (first
        | (with_reducible refine wpL_load_row rfl 58 (.tmp 5) rfl g5 58 _ 3 rfl bFv fil_wide (fil_size _ _ _ _ _) ?_)
        | (go_at_call 50; (with_reducible refine (KPv.out).mono ?_); rintro e w9 ⟨A9, c9, rfl, hx9, ho9⟩; have c0 := (BlkE bDv hx9).cell 0; have z0 := (BlkE bDv hx9).frozen 0))
      have q1 := Blk_eq (BlkS (i := 0) (u := .slice A9 pl c9) (BlkE bDv hx9)) (cs' := #[.slice A9 pl c9, .int .i64 r1, .int .i64 r2, .bool r3, .int .i64 r4, .int .i64 r5]) rfl
      have q2 := BlkF (p := ⟨w.heap.size, 0, none⟩) (u := .slice A9 pl c9) (show w.heap.size + 1 + 1 ≠ w.heap.size by omega) (BlkE b2v hx9)
      clear c0 z0 d0v
      go_wp2_with (first
        | (with_reducible refine wpL_load_row rfl 28 (.tmp 2) rfl w.heap.size 28 _ 6 rfl q1 disk_wide (dk_size _ _ _ _ _ _ _ _) ?_)
        | (with_reducible refine wpL_store_row rfl 28 (.tmp 4) (.tmp 83) rfl (w.heap.size + 1 + 1) 28 _ _ rfl rfl q2 ((dk_size _ _ _ _ _ _ _ _).trans (dk_size _ _ _ _ _ _ _ _).symm) (dk_one _ _ _ _ _ _ _ _) 6 disk_wide (dk_size _ _ _ _ _ _ _ _) ?_))
      refine bodyPost_ret (res_row rfl _ _ (w.heap.size + 1 + 1) 28 _ 6 rfl (Blk.setRow_ q2) disk_wide rfl) rfl ?_
      have hXf : Ext w ((w9.setCell ⟨w.heap.size, 0, none⟩ (.slice A9 pl c9)).setRow (w.heap.size + 1 + 1) #[.slice A9 pl c9, .int .i64 r1, .int .i64 r2, .bool r3, .int .i64 r4, .int .i64 r5]) := ExtR (by omega) (ExtS (Nat.le_refl _) (hXv.tr hx9))
      have hz9 := HZ1.out
      have ho9' := own_setRow (g := w.heap.size + 1 + 1) (ds := #[.slice A9 pl c9, .int .i64 r1, .int .i64 r2, .bool r3, .int .i64 r4, .int .i64 r5]) (by omega) (own_setCell (p := ⟨w.heap.size, 0, none⟩) (u := .slice A9 pl c9) (by dsimp only; omega) ho9)
      refine ch_end (B1 := wv.heap.size) (l := putH (⟨nm', fb ++ bs, sf⟩, A10, c10) (takeH hs0 nm')) rfl Hpl.out ?_ hXf hB (by omega) ho9' (fun x hx => ?_)
      · rw [put_fv]
        (first | rw [take_fv, take_fv] | rw [take_fv])
        exact HCV.out
      rcases putH_mem hx with rfl | hx
      · rcases HDv.out with h | ⟨y, hy, h1, h2⟩
        · exact .inr (.inl (own_base (own_setRow (g := w.heap.size + 1 + 1) (by omega) (own_setCell (p := ⟨w.heap.size, 0, none⟩) (by dsimp only; omega) (own_ext hx9 h))) (by omega)))
        · exact .inr (.inr ⟨own_ext hXf h2, y, hy, h1⟩)
      · exact .inl ⟨takeH_mem hx, own_ext hXf (HR.out.2 x (takeH_mem hx))⟩
    · -- a sync
      go_upto_region 10 with fail
      have f1 := bF.cell 1
      have f2 := bF.cell 2
      have y2 := bF.frozen 2
      go_upto_region 21 with fail
      have bFv := Blk_eq (BlkS (i := 2) (u := .int .i64 (n0 : Nat)) bF) (cs' := #[.string nm', .slice Af n0 cf, .int .i64 (n0 : Nat)]) rfl
      have bDv := BlkF (p := ⟨g5, 2, none⟩) (u := .int .i64 (n0 : Nat)) (show w.heap.size ≠ g5 by have := HZ1.out; omega) BD.out
      have b2v := BlkF (p := ⟨g5, 2, none⟩) (u := .int .i64 (n0 : Nat)) (show w.heap.size + 1 + 1 ≠ g5 by have := HZ1.out; omega) B2t.out
      have rowv := own_setCell (p := ⟨g5, 2, none⟩) (u := .int .i64 (n0 : Nat)) hg5c hot
      have hX1v : Ext W1 (wt.setCell ⟨g5, 2, none⟩ (.int .i64 (n0 : Nat))) := ExtS hg5 hX1t
      have hXv : Ext w (wt.setCell ⟨g5, 2, none⟩ (.int .i64 (n0 : Nat))) := HX1.out.tr hX1v
      generalize wt.setCell ⟨g5, 2, none⟩ (.int .i64 (n0 : Nat)) = wv at *
      have HLn : Hid (fb.length = n0) := Lib.hid Hn0.out.symm
      have HDv : Hid (wv.ownsRow W1.heap.size 5 1 (.slice Af fb.length cf) fb.length (u8s fb) ∨ ∃ y ∈ hs0, y.2.1 = Af ∧ w.ownsRow B0 5 1 (.slice Af fb.length cf) fb.length (u8s fb)) := Lib.hid (.inr ⟨_, hmk, rfl, Hof.out⟩)
      clear f1 f2 y2 o0
      have HCV : Hid (putV ⟨nm', fb, (n0 : Nat)⟩ (takeV (hs0.map (·.1)) nm') = chV (hs0.map (·.1)) ⟨nm', fb, sf⟩ ⟨2, nm', tg, bs, N, M, keep⟩) := Lib.hid (by rw [Hn0.out]; rfl)
      have KPv : Hid (Calls Tryz.prog 50 #[.slice A6 tl c6, .agg #[.string nm', .slice Af n0 cf, .int .i64 (n0 : Nat)]] wv (GaveH wv (putH (⟨nm', fb, (n0 : Nat)⟩, Af, cf) (takeH hs0 nm')))) := Lib.hid (by
        have h9 := rput_any A6 tl c6 (takeH hs0 nm') ⟨nm', fb, (n0 : Nat)⟩ Af cf wv (RdN.of_own rowv) (by omega)
        dsimp only at h9
        rw [HLn.out] at h9
        exact h9)
      unfold GaveH at KPv
      obtain ⟨pl, hpl⟩ : ∃ pl, pl = (putH (⟨nm', fb, (n0 : Nat)⟩, Af, cf) (takeH hs0 nm')).length := ⟨_, rfl⟩
      rw [← hpl] at KPv
      have Hpl := Lib.hid hpl
      have hzv : W1.heap.size ≤ wv.heap.size := hX1v.size
      have d0v := bDv.cell 0
      clear hpl
      go_upto_region 22 with (first
        | (with_reducible refine wpL_load_row rfl 58 (.tmp 5) rfl g5 58 _ 3 rfl bFv fil_wide (fil_size _ _ _ _ _) ?_)
        | (go_at_call 50; (with_reducible refine (KPv.out).mono ?_); rintro e w9 ⟨A9, c9, rfl, hx9, ho9⟩; have c0 := (BlkE bDv hx9).cell 0; have z0 := (BlkE bDv hx9).frozen 0))
      have q1 := Blk_eq (BlkS (i := 0) (u := .slice A9 pl c9) (BlkE bDv hx9)) (cs' := #[.slice A9 pl c9, .int .i64 r1, .int .i64 r2, .bool r3, .int .i64 r4, .int .i64 r5]) rfl
      have q2 := BlkF (p := ⟨w.heap.size, 0, none⟩) (u := .slice A9 pl c9) (show w.heap.size + 1 + 1 ≠ w.heap.size by omega) (BlkE b2v hx9)
      clear c0 z0 d0v
      go_wp2_with (first
        | (with_reducible refine wpL_load_row rfl 28 (.tmp 2) rfl w.heap.size 28 _ 6 rfl q1 disk_wide (dk_size _ _ _ _ _ _ _ _) ?_)
        | (with_reducible refine wpL_store_row rfl 28 (.tmp 4) (.tmp 83) rfl (w.heap.size + 1 + 1) 28 _ _ rfl rfl q2 ((dk_size _ _ _ _ _ _ _ _).trans (dk_size _ _ _ _ _ _ _ _).symm) (dk_one _ _ _ _ _ _ _ _) 6 disk_wide (dk_size _ _ _ _ _ _ _ _) ?_))
      refine bodyPost_ret (res_row rfl _ _ (w.heap.size + 1 + 1) 28 _ 6 rfl (Blk.setRow_ q2) disk_wide rfl) rfl ?_
      have hXf : Ext w ((w9.setCell ⟨w.heap.size, 0, none⟩ (.slice A9 pl c9)).setRow (w.heap.size + 1 + 1) #[.slice A9 pl c9, .int .i64 r1, .int .i64 r2, .bool r3, .int .i64 r4, .int .i64 r5]) := ExtR (by omega) (ExtS (Nat.le_refl _) (hXv.tr hx9))
      have hz9 := HZ1.out
      have ho9' := own_setRow (g := w.heap.size + 1 + 1) (ds := #[.slice A9 pl c9, .int .i64 r1, .int .i64 r2, .bool r3, .int .i64 r4, .int .i64 r5]) (by omega) (own_setCell (p := ⟨w.heap.size, 0, none⟩) (u := .slice A9 pl c9) (by dsimp only; omega) ho9)
      refine ch_end (B1 := wv.heap.size) (l := putH (⟨nm', fb, (n0 : Nat)⟩, Af, cf) (takeH hs0 nm')) rfl Hpl.out ?_ hXf hB (by omega) ho9' (fun x hx => ?_)
      · rw [put_fv]
        (first | rw [take_fv, take_fv] | rw [take_fv])
        exact HCV.out
      rcases putH_mem hx with rfl | hx
      · rcases HDv.out with h | ⟨y, hy, h1, h2⟩
        · exact .inr (.inl (own_base (own_setRow (g := w.heap.size + 1 + 1) (by omega) (own_setCell (p := ⟨w.heap.size, 0, none⟩) (by dsimp only; omega) (own_ext hx9 h))) (by omega)))
        · exact .inr (.inr ⟨own_ext hXf h2, y, hy, h1⟩)
      · exact .inl ⟨takeH_mem hx, own_ext hXf (HR.out.2 x (takeH_mem hx))⟩
    · -- a rename
      go_upto_region 12 with fail
      have o2 := BOt.out.cell 2
      have y0 := bF.frozen 0
      have f0 := bF.cell 0
      go_upto_region 13 with fail
      have bFu := Blk_eq (BlkS (i := 0) (u := .string tg) bF) (cs' := #[.string tg, .slice Af n0 cf, .int .i64 sf]) rfl
      have bDu := BlkF (p := ⟨g5, 0, none⟩) (u := .string tg) (show w.heap.size ≠ g5 by have := HZ1.out; omega) BD.out
      have bOu := BlkF (p := ⟨g5, 0, none⟩) (u := .string tg) (show w.heap.size + 1 ≠ g5 by have := HZ1.out; omega) BOt.out
      have b2u := BlkF (p := ⟨g5, 0, none⟩) (u := .string tg) (show w.heap.size + 1 + 1 ≠ g5 by have := HZ1.out; omega) B2t.out
      have rowu := own_setCell (p := ⟨g5, 0, none⟩) (u := .string tg) hg5c hot
      have hX1u : Ext W1 (wt.setCell ⟨g5, 0, none⟩ (.string tg)) := ExtS hg5 hX1t
      have hXu : Ext w (wt.setCell ⟨g5, 0, none⟩ (.string tg)) := HX1.out.tr hX1u
      generalize wt.setCell ⟨g5, 0, none⟩ (.string tg) = wu at *
      have u2 := bOu.cell 2
      have KT2 : Hid (Calls Tryz.prog 109 #[.slice A6 tl c6, .string tg] wu (GaveH wu (takeH (takeH hs0 nm') tg))) := Lib.hid (rtake_any A6 tl c6 (takeH hs0 nm') tg wu (RdN.of_own rowu) (by omega))
      unfold GaveH at KT2
      obtain ⟨t2, ht2⟩ : ∃ t2, t2 = (takeH (takeH hs0 nm') tg).length := ⟨_, rfl⟩
      have ht2n : t2 ≤ 700 := by rw [ht2]; have h1 := takeH_len (takeH hs0 nm') tg; have h2 := Htl.out; omega
      rw [← ht2] at KT2
      clear o2 y0 f0 o0 hot rowu ht2
      go_upto_region 21 with (first | (go_at_call 109; (with_reducible refine (KT2.out).mono ?_); rintro e wv ⟨A6, c6, rfl, hxv, rowv⟩))
      have bFv := BlkE bFu hxv
      have bDv := BlkE bDu hxv
      have b2v := BlkE b2u hxv
      have hX1v : Ext W1 wv := hX1u.tr hxv
      have hXv : Ext w wv := hXu.tr hxv
      have HLn : Hid (fb.length = n0) := Lib.hid Hn0.out.symm
      have HDv : Hid (wv.ownsRow W1.heap.size 5 1 (.slice Af fb.length cf) fb.length (u8s fb) ∨ ∃ y ∈ hs0, y.2.1 = Af ∧ w.ownsRow B0 5 1 (.slice Af fb.length cf) fb.length (u8s fb)) := Lib.hid (.inr ⟨_, hmk, rfl, Hof.out⟩)
      have HCV : Hid (putV ⟨tg, fb, sf⟩ (takeV (takeV (hs0.map (·.1)) nm') tg) = chV (hs0.map (·.1)) ⟨nm', fb, sf⟩ ⟨3, nm', tg, bs, N, M, keep⟩) := Lib.hid rfl
      clear u2 bFu bDu bOu b2u hX1u hXu hxv KT2
      have KPv : Hid (Calls Tryz.prog 50 #[.slice A6 t2 c6, .agg #[.string tg, .slice Af n0 cf, .int .i64 sf]] wv (GaveH wv (putH (⟨tg, fb, sf⟩, Af, cf) (takeH (takeH hs0 nm') tg)))) := Lib.hid (by
        have h9 := rput_any A6 t2 c6 (takeH (takeH hs0 nm') tg) ⟨tg, fb, sf⟩ Af cf wv (RdN.of_own rowv) (by omega)
        dsimp only at h9
        rw [HLn.out] at h9
        exact h9)
      unfold GaveH at KPv
      obtain ⟨pl, hpl⟩ : ∃ pl, pl = (putH (⟨tg, fb, sf⟩, Af, cf) (takeH (takeH hs0 nm') tg)).length := ⟨_, rfl⟩
      rw [← hpl] at KPv
      have Hpl := Lib.hid hpl
      have hzv : W1.heap.size ≤ wv.heap.size := hX1v.size
      have d0v := bDv.cell 0
      clear hpl
      go_upto_region 22 with (first
        | (with_reducible refine wpL_load_row rfl 58 (.tmp 5) rfl g5 58 _ 3 rfl bFv fil_wide (fil_size _ _ _ _ _) ?_)
        | (go_at_call 50; (with_reducible refine (KPv.out).mono ?_); rintro e w9 ⟨A9, c9, rfl, hx9, ho9⟩; have c0 := (BlkE bDv hx9).cell 0; have z0 := (BlkE bDv hx9).frozen 0))
      have q1 := Blk_eq (BlkS (i := 0) (u := .slice A9 pl c9) (BlkE bDv hx9)) (cs' := #[.slice A9 pl c9, .int .i64 r1, .int .i64 r2, .bool r3, .int .i64 r4, .int .i64 r5]) rfl
      have q2 := BlkF (p := ⟨w.heap.size, 0, none⟩) (u := .slice A9 pl c9) (show w.heap.size + 1 + 1 ≠ w.heap.size by omega) (BlkE b2v hx9)
      clear c0 z0 d0v
      go_wp2_with (first
        | (with_reducible refine wpL_load_row rfl 28 (.tmp 2) rfl w.heap.size 28 _ 6 rfl q1 disk_wide (dk_size _ _ _ _ _ _ _ _) ?_)
        | (with_reducible refine wpL_store_row rfl 28 (.tmp 4) (.tmp 83) rfl (w.heap.size + 1 + 1) 28 _ _ rfl rfl q2 ((dk_size _ _ _ _ _ _ _ _).trans (dk_size _ _ _ _ _ _ _ _).symm) (dk_one _ _ _ _ _ _ _ _) 6 disk_wide (dk_size _ _ _ _ _ _ _ _) ?_))
      refine bodyPost_ret (res_row rfl _ _ (w.heap.size + 1 + 1) 28 _ 6 rfl (Blk.setRow_ q2) disk_wide rfl) rfl ?_
      have hXf : Ext w ((w9.setCell ⟨w.heap.size, 0, none⟩ (.slice A9 pl c9)).setRow (w.heap.size + 1 + 1) #[.slice A9 pl c9, .int .i64 r1, .int .i64 r2, .bool r3, .int .i64 r4, .int .i64 r5]) := ExtR (by omega) (ExtS (Nat.le_refl _) (hXv.tr hx9))
      have hz9 := HZ1.out
      have ho9' := own_setRow (g := w.heap.size + 1 + 1) (ds := #[.slice A9 pl c9, .int .i64 r1, .int .i64 r2, .bool r3, .int .i64 r4, .int .i64 r5]) (by omega) (own_setCell (p := ⟨w.heap.size, 0, none⟩) (u := .slice A9 pl c9) (by dsimp only; omega) ho9)
      refine ch_end (B1 := wv.heap.size) (l := putH (⟨tg, fb, sf⟩, Af, cf) (takeH (takeH hs0 nm') tg)) rfl Hpl.out ?_ hXf hB (by omega) ho9' (fun x hx => ?_)
      · rw [put_fv]
        (first | rw [take_fv, take_fv] | rw [take_fv])
        exact HCV.out
      rcases putH_mem hx with rfl | hx
      · rcases HDv.out with h | ⟨y, hy, h1, h2⟩
        · exact .inr (.inl (own_base (own_setRow (g := w.heap.size + 1 + 1) (by omega) (own_setCell (p := ⟨w.heap.size, 0, none⟩) (by dsimp only; omega) (own_ext hx9 h))) (by omega)))
        · exact .inr (.inr ⟨own_ext hXf h2, y, hy, h1⟩)
      · exact .inl ⟨takeH_mem (takeH_mem hx), own_ext hXf (HR.out.2 x (takeH_mem (takeH_mem hx)))⟩
    · -- a remove
      have d0 := BD.out.cell 0
      have y0 := BD.out.frozen 0
      go_upto_region 16 with fail
      have q1 := Blk_eq (BlkS (i := 0) (u := .slice A6 tl c6) BD.out) (cs' := #[.slice A6 tl c6, .int .i64 r1, .int .i64 r2, .bool r3, .int .i64 r4, .int .i64 r5]) rfl
      have q2 := BlkF (p := ⟨w.heap.size, 0, none⟩) (u := .slice A6 tl c6) (show w.heap.size + 1 + 1 ≠ w.heap.size by omega) B2t.out
      clear d0 y0
      go_wp2_with (first
        | (with_reducible refine wpL_load_row rfl 28 (.tmp 2) rfl w.heap.size 28 _ 6 rfl q1 disk_wide (dk_size _ _ _ _ _ _ _ _) ?_)
        | (with_reducible refine wpL_store_row rfl 28 (.tmp 4) (.tmp 61) rfl (w.heap.size + 1 + 1) 28 _ _ rfl rfl q2 ((dk_size _ _ _ _ _ _ _ _).trans (dk_size _ _ _ _ _ _ _ _).symm) (dk_one _ _ _ _ _ _ _ _) 6 disk_wide (dk_size _ _ _ _ _ _ _ _) ?_))
      (try simp only [Exit.inBlock, Exit.then]); refine bodyPost_ret (res_row rfl _ _ (w.heap.size + 1 + 1) 28 _ 6 rfl (Blk.setRow_ q2) disk_wide rfl) rfl ?_
      have hXf : Ext w ((wt.setCell ⟨w.heap.size, 0, none⟩ (.slice A6 tl c6)).setRow (w.heap.size + 1 + 1) #[.slice A6 tl c6, .int .i64 r1, .int .i64 r2, .bool r3, .int .i64 r4, .int .i64 r5]) := ExtR (by omega) (ExtS (Nat.le_refl _) hXt)
      have hz9 := HZ1.out
      have hzc : W1.heap.size ≤ wc.heap.size := by omega
      have ho9' := own_setRow (g := w.heap.size + 1 + 1) (ds := #[.slice A6 tl c6, .int .i64 r1, .int .i64 r2, .bool r3, .int .i64 r4, .int .i64 r5]) (by omega) (own_setCell (p := ⟨w.heap.size, 0, none⟩) (u := .slice A6 tl c6) (by dsimp only; omega) hot)
      refine ch_end (B1 := wc.heap.size) (l := takeH hs0 nm') rfl Htl.out (by rw [take_fv]; rfl) hXf hB (by omega) ho9' (fun x hx => .inl ⟨takeH_mem hx, own_ext hXf (HR.out.2 x (takeH_mem hx))⟩)
    · -- a cut
      obtain ⟨hN0, hN1⟩ := hN rfl
      obtain ⟨m, rfl⟩ : ∃ m : Nat, N = (m : Nat) := ⟨N.toNat, by omega⟩
      have hmb : m ≤ n0 := by omega
      have hmt : (fb.take m).length = m := by rw [List.length_take]; have := Hn0.out; omega
      obtain ⟨A7, hsl, hrd⟩ := slice_hi Af n0 cf m hmb hcf
      have KC : Hid (Calls Tryz.prog 31 #[.slice A7 m cf] wt (NewB wt (fb.take m))) := Lib.hid (copy_any A7 m cf (fb.take m) wt (hrd wt fb (by rw [Hn0.out]; exact rd_own (own_ext hXt Hof.out))) (by omega))
      unfold NewB at KC
      rw [hmt] at KC
      have f1 := bF.cell 1
      have o4 := BOt.out.cell 4
      have Hmt := Lib.hid hmt
      clear hmt hrd
      go_upto_region 19 with (first | (go_at_call 31; (with_reducible refine (KC.out).mono ?_); rintro e wu ⟨A8, c8, rfl, hxu, hou⟩; have f1u := (BlkE bF hxu).cell 1; have y1u := (BlkE bF hxu).frozen 1))
      have bFu := Blk_eq (BlkS (i := 1) (u := .slice A8 m c8) (BlkE bF hxu)) (cs' := #[.string nm', .slice A8 m c8, .int .i64 sf]) rfl
      have bDu := BlkF (p := ⟨g5, 1, none⟩) (u := .slice A8 m c8) (show w.heap.size ≠ g5 by have := HZ1.out; omega) (BlkE BD.out hxu)
      have bOu := BlkF (p := ⟨g5, 1, none⟩) (u := .slice A8 m c8) (show w.heap.size + 1 ≠ g5 by have := HZ1.out; omega) (BlkE BOt.out hxu)
      have b2u := BlkF (p := ⟨g5, 1, none⟩) (u := .slice A8 m c8) (show w.heap.size + 1 + 1 ≠ g5 by have := HZ1.out; omega) (BlkE B2t.out hxu)
      have rowu := own_setCell (p := ⟨g5, 1, none⟩) (u := .slice A8 m c8) hg5c (own_ext hxu hot)
      have hou2 := own_setCell (p := ⟨g5, 1, none⟩) (u := .slice A8 m c8) (by have := bF.lt; exact this) hou
      have hX1u : Ext W1 (wu.setCell ⟨g5, 1, none⟩ (.slice A8 m c8)) := ExtS hg5 (hX1t.tr hxu)
      generalize wu.setCell ⟨g5, 1, none⟩ (.slice A8 m c8) = wx at *
      have x2 := bFu.cell 2
      have xy2 := bFu.frozen 2
      have xo := bOu.cell 4
      have HLn : Hid ((fb.take m).length = m) := Lib.hid Hmt.out
      clear f1 o4 o0 f1u y1u hxu hot hou
      by_cases hsm : (m : Int) < sf
      · have t1 : decide ((m : Int) < sf) = true := by simpa using hsm
        go_upto_region 21 with fail
        have bFv := Blk_eq (BlkS (i := 2) (u := .int .i64 (m : Nat)) bFu) (cs' := #[.string nm', .slice A8 m c8, .int .i64 (m : Nat)]) rfl
        have bDv := BlkF (p := ⟨g5, 2, none⟩) (u := .int .i64 (m : Nat)) (show w.heap.size ≠ g5 by have := HZ1.out; omega) bDu
        have b2v := BlkF (p := ⟨g5, 2, none⟩) (u := .int .i64 (m : Nat)) (show w.heap.size + 1 + 1 ≠ g5 by have := HZ1.out; omega) b2u
        have rowv := own_setCell (p := ⟨g5, 2, none⟩) (u := .int .i64 (m : Nat)) hg5c rowu
        have hov := own_setCell (p := ⟨g5, 2, none⟩) (u := .int .i64 (m : Nat)) (by have := bF.lt; exact this) hou2
        have hX1v : Ext W1 (wx.setCell ⟨g5, 2, none⟩ (.int .i64 (m : Nat))) := ExtS hg5 hX1u
        have hXv : Ext w (wx.setCell ⟨g5, 2, none⟩ (.int .i64 (m : Nat))) := HX1.out.tr hX1v
        generalize wx.setCell ⟨g5, 2, none⟩ (.int .i64 (m : Nat)) = wv at *
        have HDv : Hid (wv.ownsRow W1.heap.size 5 1 (.slice A8 (fb.take m).length c8) (fb.take m).length (u8s (fb.take m)) ∨ ∃ y ∈ hs0, y.2.1 = A8 ∧ w.ownsRow B0 5 1 (.slice A8 (fb.take m).length c8) (fb.take m).length (u8s (fb.take m))) := Lib.hid (.inl (by rw [Hmt.out]; exact own_base hov hzt))
        have HCV : Hid (putV ⟨nm', fb.take m, (m : Nat)⟩ (takeV (hs0.map (·.1)) nm') = chV (hs0.map (·.1)) ⟨nm', fb, sf⟩ ⟨5, nm', tg, bs, (m : Nat), M, keep⟩) := Lib.hid (by
          show _ = putV ⟨nm', fb.take ((m : Nat) : Int).toNat, min sf (m : Nat)⟩ _
          rw [Int.toNat_natCast, show min sf (m : Int) = (m : Int) by omega])
        clear x2 xy2 xo bFu bDu bOu b2u rowu hou2 hX1u
        have KPv : Hid (Calls Tryz.prog 50 #[.slice A6 tl c6, .agg #[.string nm', .slice A8 m c8, .int .i64 (m : Nat)]] wv (GaveH wv (putH (⟨nm', fb.take m, (m : Nat)⟩, A8, c8) (takeH hs0 nm')))) := Lib.hid (by
          have h9 := rput_any A6 tl c6 (takeH hs0 nm') ⟨nm', fb.take m, (m : Nat)⟩ A8 c8 wv (RdN.of_own rowv) (by omega)
          dsimp only at h9
          rw [HLn.out] at h9
          exact h9)
        unfold GaveH at KPv
        obtain ⟨pl, hpl⟩ : ∃ pl, pl = (putH (⟨nm', fb.take m, (m : Nat)⟩, A8, c8) (takeH hs0 nm')).length := ⟨_, rfl⟩
        rw [← hpl] at KPv
        have Hpl := Lib.hid hpl
        have hzv : W1.heap.size ≤ wv.heap.size := hX1v.size
        have d0v := bDv.cell 0
        clear hpl
        go_upto_region 22 with (first
          | (with_reducible refine wpL_load_row rfl 58 (.tmp 5) rfl g5 58 _ 3 rfl bFv fil_wide (fil_size _ _ _ _ _) ?_)
          | (go_at_call 50; (with_reducible refine (KPv.out).mono ?_); rintro e w9 ⟨A9, c9, rfl, hx9, ho9⟩; have c0 := (BlkE bDv hx9).cell 0; have z0 := (BlkE bDv hx9).frozen 0))
        have q1 := Blk_eq (BlkS (i := 0) (u := .slice A9 pl c9) (BlkE bDv hx9)) (cs' := #[.slice A9 pl c9, .int .i64 r1, .int .i64 r2, .bool r3, .int .i64 r4, .int .i64 r5]) rfl
        have q2 := BlkF (p := ⟨w.heap.size, 0, none⟩) (u := .slice A9 pl c9) (show w.heap.size + 1 + 1 ≠ w.heap.size by omega) (BlkE b2v hx9)
        clear c0 z0 d0v
        go_wp2_with (first
          | (with_reducible refine wpL_load_row rfl 28 (.tmp 2) rfl w.heap.size 28 _ 6 rfl q1 disk_wide (dk_size _ _ _ _ _ _ _ _) ?_)
          | (with_reducible refine wpL_store_row rfl 28 (.tmp 4) (.tmp 83) rfl (w.heap.size + 1 + 1) 28 _ _ rfl rfl q2 ((dk_size _ _ _ _ _ _ _ _).trans (dk_size _ _ _ _ _ _ _ _).symm) (dk_one _ _ _ _ _ _ _ _) 6 disk_wide (dk_size _ _ _ _ _ _ _ _) ?_))
        refine bodyPost_ret (res_row rfl _ _ (w.heap.size + 1 + 1) 28 _ 6 rfl (Blk.setRow_ q2) disk_wide rfl) rfl ?_
        have hXf : Ext w ((w9.setCell ⟨w.heap.size, 0, none⟩ (.slice A9 pl c9)).setRow (w.heap.size + 1 + 1) #[.slice A9 pl c9, .int .i64 r1, .int .i64 r2, .bool r3, .int .i64 r4, .int .i64 r5]) := ExtR (by omega) (ExtS (Nat.le_refl _) (hXv.tr hx9))
        have hz9 := HZ1.out
        have ho9' := own_setRow (g := w.heap.size + 1 + 1) (ds := #[.slice A9 pl c9, .int .i64 r1, .int .i64 r2, .bool r3, .int .i64 r4, .int .i64 r5]) (by omega) (own_setCell (p := ⟨w.heap.size, 0, none⟩) (u := .slice A9 pl c9) (by dsimp only; omega) ho9)
        refine ch_end (B1 := wv.heap.size) (l := putH (⟨nm', fb.take m, (m : Nat)⟩, A8, c8) (takeH hs0 nm')) rfl Hpl.out ?_ hXf hB (by omega) ho9' (fun x hx => ?_)
        · rw [put_fv]
          (first | rw [take_fv, take_fv] | rw [take_fv])
          exact HCV.out
        rcases putH_mem hx with rfl | hx
        · rcases HDv.out with h | ⟨y, hy, h1, h2⟩
          · exact .inr (.inl (own_base (own_setRow (g := w.heap.size + 1 + 1) (by omega) (own_setCell (p := ⟨w.heap.size, 0, none⟩) (by dsimp only; omega) (own_ext hx9 h))) (by omega)))
          · exact .inr (.inr ⟨own_ext hXf h2, y, hy, h1⟩)
        · exact .inl ⟨takeH_mem hx, own_ext hXf (HR.out.2 x (takeH_mem hx))⟩
      · have t1 : decide ((m : Int) < sf) = false := by simpa using hsm
        go_upto_region 21 with fail
        obtain ⟨wv, hwv⟩ : ∃ wv, wv = wx := ⟨_, rfl⟩
        rw [← hwv] at bFu bDu b2u rowu hX1u hou2 ⊢
        clear x2 xy2 xo hwv
        have bFv := bFu
        have bDv := bDu
        have b2v := b2u
        have rowv := rowu
        have hX1v := hX1u
        have hXv : Ext w wv := HX1.out.tr hX1v
        have HDv : Hid (wv.ownsRow W1.heap.size 5 1 (.slice A8 (fb.take m).length c8) (fb.take m).length (u8s (fb.take m)) ∨ ∃ y ∈ hs0, y.2.1 = A8 ∧ w.ownsRow B0 5 1 (.slice A8 (fb.take m).length c8) (fb.take m).length (u8s (fb.take m))) := Lib.hid (.inl (by rw [Hmt.out]; exact own_base hou2 hzt))
        have HCV : Hid (putV ⟨nm', fb.take m, sf⟩ (takeV (hs0.map (·.1)) nm') = chV (hs0.map (·.1)) ⟨nm', fb, sf⟩ ⟨5, nm', tg, bs, (m : Nat), M, keep⟩) := Lib.hid (by
          show _ = putV ⟨nm', fb.take ((m : Nat) : Int).toNat, min sf (m : Nat)⟩ _
          rw [Int.toNat_natCast, show min sf (m : Int) = sf by omega])
        clear bFu bDu b2u rowu hX1u hou2
        have KPv : Hid (Calls Tryz.prog 50 #[.slice A6 tl c6, .agg #[.string nm', .slice A8 m c8, .int .i64 sf]] wv (GaveH wv (putH (⟨nm', fb.take m, sf⟩, A8, c8) (takeH hs0 nm')))) := Lib.hid (by
          have h9 := rput_any A6 tl c6 (takeH hs0 nm') ⟨nm', fb.take m, sf⟩ A8 c8 wv (RdN.of_own rowv) (by omega)
          dsimp only at h9
          rw [HLn.out] at h9
          exact h9)
        unfold GaveH at KPv
        obtain ⟨pl, hpl⟩ : ∃ pl, pl = (putH (⟨nm', fb.take m, sf⟩, A8, c8) (takeH hs0 nm')).length := ⟨_, rfl⟩
        rw [← hpl] at KPv
        have Hpl := Lib.hid hpl
        have hzv : W1.heap.size ≤ wv.heap.size := hX1v.size
        have d0v := bDv.cell 0
        clear hpl
        go_upto_region 22 with (first
          | (with_reducible refine wpL_load_row rfl 58 (.tmp 5) rfl g5 58 _ 3 rfl bFv fil_wide (fil_size _ _ _ _ _) ?_)
          | (go_at_call 50; (with_reducible refine (KPv.out).mono ?_); rintro e w9 ⟨A9, c9, rfl, hx9, ho9⟩; have c0 := (BlkE bDv hx9).cell 0; have z0 := (BlkE bDv hx9).frozen 0))
        have q1 := Blk_eq (BlkS (i := 0) (u := .slice A9 pl c9) (BlkE bDv hx9)) (cs' := #[.slice A9 pl c9, .int .i64 r1, .int .i64 r2, .bool r3, .int .i64 r4, .int .i64 r5]) rfl
        have q2 := BlkF (p := ⟨w.heap.size, 0, none⟩) (u := .slice A9 pl c9) (show w.heap.size + 1 + 1 ≠ w.heap.size by omega) (BlkE b2v hx9)
        clear c0 z0 d0v
        go_wp2_with (first
          | (with_reducible refine wpL_load_row rfl 28 (.tmp 2) rfl w.heap.size 28 _ 6 rfl q1 disk_wide (dk_size _ _ _ _ _ _ _ _) ?_)
          | (with_reducible refine wpL_store_row rfl 28 (.tmp 4) (.tmp 83) rfl (w.heap.size + 1 + 1) 28 _ _ rfl rfl q2 ((dk_size _ _ _ _ _ _ _ _).trans (dk_size _ _ _ _ _ _ _ _).symm) (dk_one _ _ _ _ _ _ _ _) 6 disk_wide (dk_size _ _ _ _ _ _ _ _) ?_))
        refine bodyPost_ret (res_row rfl _ _ (w.heap.size + 1 + 1) 28 _ 6 rfl (Blk.setRow_ q2) disk_wide rfl) rfl ?_
        have hXf : Ext w ((w9.setCell ⟨w.heap.size, 0, none⟩ (.slice A9 pl c9)).setRow (w.heap.size + 1 + 1) #[.slice A9 pl c9, .int .i64 r1, .int .i64 r2, .bool r3, .int .i64 r4, .int .i64 r5]) := ExtR (by omega) (ExtS (Nat.le_refl _) (hXv.tr hx9))
        have hz9 := HZ1.out
        have ho9' := own_setRow (g := w.heap.size + 1 + 1) (ds := #[.slice A9 pl c9, .int .i64 r1, .int .i64 r2, .bool r3, .int .i64 r4, .int .i64 r5]) (by omega) (own_setCell (p := ⟨w.heap.size, 0, none⟩) (u := .slice A9 pl c9) (by dsimp only; omega) ho9)
        refine ch_end (B1 := wv.heap.size) (l := putH (⟨nm', fb.take m, sf⟩, A8, c8) (takeH hs0 nm')) rfl Hpl.out ?_ hXf hB (by omega) ho9' (fun x hx => ?_)
        · rw [put_fv]
          (first | rw [take_fv, take_fv] | rw [take_fv])
          exact HCV.out
        rcases putH_mem hx with rfl | hx
        · rcases HDv.out with h | ⟨y, hy, h1, h2⟩
          · exact .inr (.inl (own_base (own_setRow (g := w.heap.size + 1 + 1) (by omega) (own_setCell (p := ⟨w.heap.size, 0, none⟩) (by dsimp only; omega) (own_ext hx9 h))) (by omega)))
          · exact .inr (.inr ⟨own_ext hXf h2, y, hy, h1⟩)
        · exact .inl ⟨takeH_mem hx, own_ext hXf (HR.out.2 x (takeH_mem hx))⟩
end Go.Proofs.YtjajbbgebblalaaGreatDoor

namespace Go.Proofs.YtjajbbgebblalaaGreatDoor
open Go.RowKit
set_option linter.unusedVariables false
set_option linter.unusedSimpArgs false
theorem hv_fl {w : World} {B n c : Nat} {A : Option Addr} {hs : List HV} {L : List FV} (h : OwnFl w B A n c hs) (hm : hs.map (·.1) = L) : FlRd w A n L := hm ▸ h.rd
theorem sum_small {d : Dk} (h : DkInv d) : sumV (imgL d) ≤ 67108864 := by
  have h1 : d.used = (sumF d.files : Nat) := h.ok.1
  have h2 := h.ok.2
  rw [sumV_img]
  omega
theorem img_small {d : Dk} (h : DkInv d) : ∀ f ∈ imgL d, FvOk f := by
  intro f hf
  obtain ⟨g, hg, rfl⟩ := List.mem_map.1 ((img_perm d).mem_iff.1 hf)
  have h1 : g.data.length ≤ sumF d.files := le_sum_mem (List.mem_map.2 ⟨g, hg, rfl⟩)
  have h2 : d.used = (sumF d.files : Nat) := h.ok.1
  have h3 := h.ok.2
  have h4 := h.safe g hg
  refine ⟨?_, ?_, ?_⟩
  · show g.data.length ≤ _
    omega
  · exact Int.natCast_nonneg _
  · show ((g.safe : Nat) : Int) ≤ (g.data.length : Nat)
    omega
theorem rbar_any {d : Dk} (hI : DkInv d) (A : Option Addr) (n c : Nat) (K : Int) (hK : 0 ≤ K ∧ K ≤ 7) (nm tn : ByteArray) (B : Option Addr) (bl bc : Nat) (hbl : bl ≤ 140737488355328) (N M : Int) (hN : IsI64 N) (hM : IsI64 M) (AK : Option Addr) (kl kc : Nat) (w : World) (hr : FlRd w A n (imgL d)) :
    Calls Tryz.prog 58 #[.agg #[.slice A n c, .int .i64 d.room, .int .i64 d.fuse, .bool d.down, .int .i64 d.steps, .int .i64 d.read], .agg #[.int .i64 K, .string nm, .string tn, .slice B bl bc, .int .i64 N, .int .i64 M, .slice AK kl kc]] w
      fun e w' => e = .returned (.int .i64 (erD d K nm tn bl N M : Nat)) ∧ Ext w w' := by
  have hn : n ≤ 2000000 := by have := hr.len; rw [imgL_len] at this; have := hI.cnt; omega
  have hbe := bar_eq hI K nm tn bl N M
  by_cases hlow : d.down = true ∨ (rightB nm = false ∨ (K = 3 ∧ rightB tn = false)) ∨ K = 0 ∨ atI (imgL d) nm < 0
  · have := rbar_low A n c (imgL d) d.room d.fuse d.steps d.read d.down K nm tn B bl bc N M AK kl kc w hr hn hlow
    rw [hbe] at this
    exact this
  · have hd : d.down = false := by
      cases h : d.down
      · rfl
      · exact absurd (.inl h) hlow
    have hrn : rightB nm = true := by
      cases h : rightB nm
      · exact absurd (.inr (.inl (.inl h))) hlow
      · rfl
    have h3 : ¬ (K = 3 ∧ rightB tn = false) := fun h => hlow (.inr (.inl (.inr h)))
    have h0 : K ≠ 0 := fun h => hlow (.inr (.inr (.inl h)))
    have hat : ¬ atI (imgL d) nm < 0 := fun h => hlow (.inr (.inr (.inr h)))
    rcases at_img hI.nd nm with ⟨_, hi, _⟩ | ⟨k, f, _, hi, hk, hn2, _, hm⟩
    · rw [hi] at hat; omega
    · have hfs := (img_small hI f.fv (List.mem_of_getElem? hk)).1
      rw [hd] at hbe ⊢
      by_cases h1 : K = 1
      · subst h1
        have := rbar_one A n c (imgL d) d.room d.fuse d.steps d.read nm tn B bl bc N M AK kl kc w hr hn hrn k f.fv hi hk (sum_small hI) ⟨hI.room, hI.ok.2.2⟩ hbl
        rw [hbe] at this
        exact this
      · have := rbar_high A n c (imgL d) d.room d.fuse d.steps d.read K nm tn B bl bc N M AK kl kc w hr hn hrn h3 h0 h1 k f.fv hi hk hfs hN hM
        rw [hbe] at this
        exact this
/-- What a step makes of the document's disk. -/
theorem rchange_any {d d' : Dk} (hI : DkInv d) (hI' : DkInv d') (o : Op10) (hk : 0 ≤ o.k ∧ o.k ≤ 5) (hd' : d'.files = chFil d o) (he : erD d o.k o.name o.tgt o.b.length o.n o.m = 0) (A : Option Addr) (n c B0 : Nat) (hs0 : List HV) (hmap : hs0.map (·.1) = imgL d) (r1 r2 r4 r5 : Int) (r3 : Bool) (Bb : Option Addr) (bc : Nat) (AK : Option Addr) (kl kc : Nat) (w : World) (hr : OwnFl w B0 A n c hs0) (hB : B0 ≤ w.heap.size)
    (hbs : Rd w Bb o.b.length (u8s o.b)) :
    Calls Tryz.prog 59 #[.agg #[.slice A n c, .int .i64 r1, .int .i64 r2, .bool r3, .int .i64 r4, .int .i64 r5], .agg #[.int .i64 o.k, .string o.name, .string o.tgt, .slice Bb o.b.length bc, .int .i64 o.n, .int .i64 o.m, .slice AK kl kc]] w (ChPost w B0 A hs0 (imgL d') r1 r2 r4 r5 r3) := by
  have hn : n ≤ 700 := by have := hr.len; have h2 := imgL_len d; rw [← hmap, List.length_map] at h2; have := hI.cnt; omega
  obtain ⟨h1, h2, _, h4, h5, h6, h7, _⟩ := erD_open he
  by_cases h0 : o.k = 0
  · have hc := ch_img (f := ⟨o.name, [], 0⟩) hI hI' hk (fun h => by omega) hd' (fun h => absurd h0 h)
    have hc2 : putV ⟨o.name, [], 0⟩ (imgL d) = imgL d' := by rw [← hc]; unfold chV; rw [if_pos h0]
    have := rchange0 A n c B0 hs0 r1 r2 r4 r5 r3 o.name o.tgt Bb o.b.length bc o.n o.m AK kl kc w hr hB hn
    rw [hmap, hc2] at this
    rw [h0]
    exact this
  · rcases at_img hI.nd o.name with ⟨ha, _, _⟩ | ⟨k, f, _, hi, hkk, hn2, hg, hm⟩
    · rw [h5 h0] at ha; cases ha
    · have hlf : lenF d o.name = f.data.length := by unfold lenF; rw [hg]; rfl
      rw [hlf] at h7
      have hc := ch_img (f := f) hI hI' hk (fun h => by have := h7 h; omega) hd' (fun _ => hg)
      have := rchangeK o.k (by omega) A n c B0 hs0 r1 r2 r4 r5 r3 o.name o.tgt Bb o.b.length bc o.b o.n o.m AK kl kc o.keep w hr hB hn k f.fv (by rw [hmap]; exact hi) (by rw [hmap]; exact hkk) hn2 (img_small hI _ (List.mem_of_getElem? hkk)) hbs (fun h => by have h9 := h6 h; have ha := hI.ok.2; have hb : d.used = (sumF d.files : Nat) := hI.ok.1; omega) (fun h => by have := h7 h; exact ⟨by omega, by show o.n ≤ (f.data.length : Nat); omega⟩)
      rw [hmap, show (⟨o.k, o.name, o.tgt, o.b, o.n, o.m, o.keep⟩ : Op10) = o from rfl, hc] at this
      exact this
/-- What Do answers. -/
def DoPost (w : World) (B0 : Nat) (A : Option Addr) (hs0 : List HV) (r : Dk × List UInt8 × Nat × Nat) (e : Ending) (w' : World) : Prop :=
  ∃ A' n' c' hs Ab cb, e = .returned (.tuple #[.agg #[.slice A' n' c', .int .i64 r.1.room, .int .i64 r.1.fuse, .bool r.1.down, .int .i64 r.1.steps, .int .i64 r.1.read], .slice Ab r.2.1.length cb, .int .i64 (r.2.2.1 : Nat), .int .i64 (r.2.2.2 : Nat)]) ∧ hs.map (·.1) = imgL r.1 ∧ Ext w w' ∧ OwnFl w' B0 A' n' c' hs ∧ (∀ r, hvB A' hs r → hvB A hs0 r ∨ w.heap.size ≤ r) ∧ w'.ownsRow w.heap.size 5 1 (.slice Ab r.2.1.length cb) r.2.1.length (u8s r.2.1)
theorem res_row_ttt {P : Program} {w : World} {fn : Func} {p u v x : Tmp} {ty : TypeId} (h : fn.results = #[.cell p ty, .tmp u, .tmp v, .tmp x]) (tmps : Array Value) (g : Nat) (t : TypeId) (cs : Array Value) (n : Nat) (a b c : Value)
    (hp : tmps.getD p undef = .pointer (some ⟨g, 0, none⟩)) (hu : tmps.getD u undef = a) (hv : tmps.getD v undef = b) (hx : tmps.getD x undef = c) (hb : Blk w g t cs) (hw : Wide P ty n) (hn : cs.size = n) : (results fn tmps).run P w = .ok (.tuple #[.agg cs, a, b, c]) w := by
  have hp' : tmps[p]?.getD undef = .pointer (some ⟨g, 0, none⟩) := by simpa using hp
  have hu' : tmps[u]?.getD undef = a := by simpa using hu
  have hv' : tmps[v]?.getD undef = b := by simpa using hv
  have hx' : tmps[x]?.getD undef = c := by simpa using hx
  simp [results, h, hp', hu', hv', hx', asAddr, run_loadVar_blk hb hw hn]
end Go.Proofs.YtjajbbgebblalaaGreatDoor

namespace Go.Proofs.YtjajbbgebblalaaGreatDoor
open Go.RowKit
set_option linter.unusedVariables false
set_option linter.unusedSimpArgs false
theorem op_size (K : Int) (nm tg : ByteArray) (Bb : Option Addr) (bl bc : Nat) (N M : Int) (AK : Option Addr) (kl kc : Nat) : (#[.int .i64 K, .string nm, .string tg, .slice Bb bl bc, .int .i64 N, .int .i64 M, .slice AK kl kc] : Array Value).size = 7 := rfl
/-- The frame of Do: the two boxes, the answer's. -/
structure DoW (w W : World) (dk op : Array Value) : Prop where
  ext : Ext w W
  dk : Blk W w.heap.size 28 dk
  op : Blk W (w.heap.size + 1) 44 op
  z : ∃ cs, Blk W (w.heap.size + 1 + 1) 28 cs ∧ cs.size = 6
set_option maxRecDepth 100000 in
set_option maxHeartbeats 4000000 in
theorem do_low {d : Dk} (hI : DkInv d) (o : Op10) (hk : o.k < 0 ∨ 7 < o.k) (A : Option Addr) (n c B0 : Nat) (hs0 : List HV) (hmap : hs0.map (·.1) = imgL d) (Bb : Option Addr) (bc : Nat) (AK : Option Addr) (kc : Nat) (w : World) (hr : OwnFl w B0 A n c hs0) (hB : B0 ≤ w.heap.size) (hn64 : IsI64 o.n)
    (hke : Rd w AK o.keep.length (ints o.keep)) (hkb : o.keep.length * 8 ≤ 140737488351232) (hki : ∀ x ∈ o.keep, IsI64 x) :
    Calls Tryz.prog 15 #[.agg #[.slice A n c, .int .i64 d.room, .int .i64 d.fuse, .bool d.down, .int .i64 d.steps, .int .i64 d.read], .agg #[.int .i64 o.k, .string o.name, .string o.tgt, .slice Bb o.b.length bc, .int .i64 o.n, .int .i64 o.m, .slice AK o.keep.length kc]] w (DoPost w B0 A hs0 (callD d o)) := by
  have hl0 := hr.len
  have hnn : n ≤ 700 := by have h2 := imgL_len d; rw [← hmap, List.length_map] at h2; have := hI.cnt; omega
  obtain ⟨K, nm, tg, bs, N, M, keep⟩ := o
  dsimp only at *
  obtain ⟨kl, hkl⟩ : ∃ kl, kl = keep.length := ⟨_, rfl⟩
  obtain ⟨bl, hbl⟩ : ∃ bl, bl = bs.length := ⟨_, rfl⟩
  rw [← hkl] at hke hkb ⊢
  rw [← hbl]
  by_cases h8 : K = 8
  · subst h8
    have KR := Lib.hid fun W (hx : Ext w W) => rrestart_any A n c B0 hs0 d.room d.fuse d.steps d.read d.down AK kl kc keep W (hr.ext hx) (by omega) (fun h hh => img_small hI h.1 (by rw [← hmap]; exact List.mem_map.2 ⟨h, hh, rfl⟩)) (hke.ext hx) hki (by omega)
    have him := img_restart (d := d) keep (inv_restart hI keep)
    rw [hmap, him] at KR
    have hcall : callD d ⟨8, nm, tg, bs, N, M, keep⟩ = (restartD d keep, [], 0, 0) := by simp [callD]
    rw [hcall]
    have Hm := Lib.hid hmap
    clear hr hke hmap hcall him hkl hbl
    go_enter Tryz.func15, Tryz.ntmps15
    go_wp2_with (first
      | (with_reducible refine wpL_load_row rfl 28 (.tmp 2) rfl w.heap.size 28 _ 6 rfl (BlkA (BlkA (BlkN rfl))) disk_wide (dk_size _ _ _ _ _ _ _ _) ?_)
      | (go_at_call 57; (with_reducible refine (KR.out _ (by repeat (first | with_reducible exact Below.refl _ _ | with_reducible assumption | with_reducible refine ExtD ?_ | with_reducible refine ExtDN ?_ | with_reducible refine ExtA ?_ | (with_reducible refine ExtR ?_ ?_; (first | omega | (dsimp only; omega) | (simp; done) | (simp; omega))) | (with_reducible refine ExtS ?_ ?_; (first | omega | (dsimp only; omega) | (simp; done) | (simp; omega))) | with_reducible refine Ext.tr ?_ (by with_reducible assumption)))).mono ?_); rintro e w2 ⟨A2, c2, hs, rfl, hm2, hx2, ho2⟩; have bz : Blk w2 (w.heap.size + 1 + 1) 28 #[.slice none 0 0, .int .i64 0, .int .i64 0, .bool false, .int .i64 0, .int .i64 0] := BlkE (BlkN (by simp)) hx2)
      | (with_reducible refine wpL_store_row rfl 28 (.tmp 4) (.tmp 15) rfl (w.heap.size + 1 + 1) 28 _ _ rfl rfl bz ((dk_size _ _ _ _ _ _ _ _).trans (dk_size _ _ _ _ _ _ _ _).symm) (dk_one _ _ _ _ _ _ _ _) 6 disk_wide (dk_size _ _ _ _ _ _ _ _) ?_))
    (try simp only [Exit.inBlock, Exit.then]); refine bodyPost_ret (v := .tuple #[.agg #[.slice A2 n c2, .int .i64 d.room, .int .i64 0, .bool false, .int .i64 d.steps, .int .i64 d.read], (.slice none 0 0), (.int .i64 0), (.int .i64 0)]) (res_row_ttt rfl _ (w.heap.size + 1 + 1) 28 _ 6 _ _ _ rfl rfl rfl rfl ?_ disk_wide rfl) rfl ?_
    · exact Blk.setRow_ bz
    · have hx2' : Ext w w2 := (ExtA (ExtA (ExtA (Ext.rfl' w)))).tr hx2
      have hz2 : w.heap.size + 1 + 1 + 1 ≤ w2.heap.size := by have := hx2.size; simpa using this
      exact ⟨A2, n, c2, hs, none, 0, rfl, hm2, ExtR (by omega) hx2', (ownfl_row (by simp) ho2).low (by simp; omega), fun r hr => .inr (by
        rcases hr with hr | ⟨y, hy, hr⟩
        · have := own_new_blk ho2.1 hr; simp at this; omega
        · have := own_new_blk (ho2.2 y hy) hr; simp at this; omega), World.ownsRow_nil _ _ _ _⟩
  · have HR := Lib.hid hr
    have Hm := Lib.hid hmap
    have q8 : (K == 8) = false := by simpa using h8
    have hK64 : K < 0 ∨ 7 < K := hk
    obtain ⟨RC, hRC⟩ : ∃ RC, RC = callD d ⟨K, nm, tg, bs, N, M, keep⟩ := ⟨_, rfl⟩
    rw [← hRC]
    have HRC := Lib.hid hRC
    clear hr hmap hke hkl hbl hk hRC
    go_enter Tryz.func15, Tryz.ntmps15
    go_upto_region 1 with fail
    obtain ⟨W1, hW1⟩ : ∃ W1, W1 = ((w.alloc (.cells #[.slice A n c, .int .i64 d.room, .int .i64 d.fuse, .bool d.down, .int .i64 d.steps, .int .i64 d.read] 28)).alloc (.cells #[.int .i64 K, .string nm, .string tg, .slice Bb bl bc, .int .i64 N, .int .i64 M, .slice AK kl kc] 44)).alloc (.cells #[.slice none 0 0, .int .i64 0, .int .i64 0, .bool false, .int .i64 0, .int .i64 0] 28) := ⟨_, rfl⟩
    have bD : Blk W1 w.heap.size 28 #[.slice A n c, .int .i64 d.room, .int .i64 d.fuse, .bool d.down, .int .i64 d.steps, .int .i64 d.read] := by rw [hW1]; exact BlkA (BlkA (BlkN rfl))
    have bZ : Blk W1 (w.heap.size + 1 + 1) 28 #[.slice none 0 0, .int .i64 0, .int .i64 0, .bool false, .int .i64 0, .int .i64 0] := by rw [hW1]; exact BlkN (by simp)
    have bO : Blk W1 (w.heap.size + 1) 44 #[.int .i64 K, .string nm, .string tg, .slice Bb bl bc, .int .i64 N, .int .i64 M, .slice AK kl kc] := by rw [hW1]; exact BlkA (BlkN (by simp))
    have hX1 : Ext w W1 := by rw [hW1]; exact ExtA (ExtA (ExtA (Ext.rfl' w)))
    rw [← hW1]
    clear hW1
    have o0 := bO.cell 0
    have o4 := bO.cell 4
    by_cases h9 : K = 9
    · subst h9
      have hcall : callD d ⟨9, nm, tg, bs, N, M, keep⟩ = ({ d with fuse := max 0 N }, [], 0, 0) := by simp [callD]
      have HC := Lib.hid (HRC.out.trans hcall)
      have y2 := bD.frozen 2
      have c2 := bD.cell 2
      clear hcall
      go_upto_region 5 with fail
      have bD3 := Blk_eq (BlkS (i := 2) (u := .int .i64 0) bD) (cs' := #[.slice A n c, .int .i64 d.room, .int .i64 0, .bool d.down, .int .i64 d.steps, .int .i64 d.read]) rfl
      have bO3 := BlkF (p := ⟨w.heap.size, 2, none⟩) (u := .int .i64 0) (show w.heap.size + 1 ≠ w.heap.size by omega) bO
      have bZ3 := BlkF (p := ⟨w.heap.size, 2, none⟩) (u := .int .i64 0) (show w.heap.size + 1 + 1 ≠ w.heap.size by omega) bZ
      have hX3 : Ext w (W1.setCell ⟨w.heap.size, 2, none⟩ (.int .i64 0)) := ExtS (Nat.le_refl _) hX1
      generalize W1.setCell ⟨w.heap.size, 2, none⟩ (.int .i64 0) = W3 at *
      have p4 := bO3.cell 4
      clear o0 o4 y2 c2 bD bO bZ hX1
      by_cases hN : 0 < N
      · have t1 : decide (0 < N) = true := by simpa using hN
        have y2 := bD3.frozen 2
        have c2 := bD3.cell 2
        go_upto_region 7 with fail
        have bD4 := Blk_eq (BlkS (i := 2) (u := .int .i64 N) bD3) (cs' := #[.slice A n c, .int .i64 d.room, .int .i64 N, .bool d.down, .int .i64 d.steps, .int .i64 d.read]) rfl
        have bZ4 := BlkF (p := ⟨w.heap.size, 2, none⟩) (u := .int .i64 N) (show w.heap.size + 1 + 1 ≠ w.heap.size by omega) bZ3
        clear p4 y2 c2
        go_wp2_with (first | (with_reducible refine wpL_load_row rfl 28 (.tmp 2) rfl w.heap.size 28 _ 6 rfl bD4 disk_wide (dk_size _ _ _ _ _ _ _ _) ?_) | (with_reducible refine wpL_store_row rfl 28 (.tmp 4) (.tmp 26) rfl (w.heap.size + 1 + 1) 28 _ _ rfl rfl bZ4 ((dk_size _ _ _ _ _ _ _ _).trans (dk_size _ _ _ _ _ _ _ _).symm) (dk_one _ _ _ _ _ _ _ _) 6 disk_wide (dk_size _ _ _ _ _ _ _ _) ?_))
        (try simp only [Exit.inBlock, Exit.then]); refine bodyPost_ret (v := .tuple #[.agg #[.slice A n c, .int .i64 d.room, .int .i64 N, .bool d.down, .int .i64 d.steps, .int .i64 d.read], (.slice none 0 0), (.int .i64 0), (.int .i64 0)]) (res_row_ttt rfl _ (w.heap.size + 1 + 1) 28 _ 6 _ _ _ rfl rfl rfl rfl ?_ disk_wide rfl) rfl ?_
        · exact Blk.setRow_ bZ4
        · have hXf := ExtR (a := w) (g := w.heap.size + 1 + 1) (ds := #[.slice A n c, .int .i64 d.room, .int .i64 N, .bool d.down, .int .i64 d.steps, .int .i64 d.read]) (by omega) (ExtS (p := ⟨w.heap.size, 2, none⟩) (v := .int .i64 N) (Nat.le_refl _) hX3)
          rw [HC.out]
          exact ⟨A, n, c, hs0, none, 0, by dsimp only; rw [show max 0 N = N by omega]; rfl, Hm.out, hXf, HR.out.ext hXf, fun r hr => .inl hr, World.ownsRow_nil _ _ _ _⟩
      · have t1 : decide (0 < N) = false := by simpa using hN
        go_upto_region 7 with fail
        clear p4
        go_wp2_with (first | (with_reducible refine wpL_load_row rfl 28 (.tmp 2) rfl w.heap.size 28 _ 6 rfl bD3 disk_wide (dk_size _ _ _ _ _ _ _ _) ?_) | (with_reducible refine wpL_store_row rfl 28 (.tmp 4) (.tmp 26) rfl (w.heap.size + 1 + 1) 28 _ _ rfl rfl bZ3 ((dk_size _ _ _ _ _ _ _ _).trans (dk_size _ _ _ _ _ _ _ _).symm) (dk_one _ _ _ _ _ _ _ _) 6 disk_wide (dk_size _ _ _ _ _ _ _ _) ?_))
        (try simp only [Exit.inBlock, Exit.then]); refine bodyPost_ret (v := .tuple #[.agg #[.slice A n c, .int .i64 d.room, .int .i64 0, .bool d.down, .int .i64 d.steps, .int .i64 d.read], (.slice none 0 0), (.int .i64 0), (.int .i64 0)]) (res_row_ttt rfl _ (w.heap.size + 1 + 1) 28 _ 6 _ _ _ rfl rfl rfl rfl ?_ disk_wide rfl) rfl ?_
        · exact Blk.setRow_ bZ3
        · have hXf := ExtR (a := w) (g := w.heap.size + 1 + 1) (ds := #[.slice A n c, .int .i64 d.room, .int .i64 0, .bool d.down, .int .i64 d.steps, .int .i64 d.read]) (by omega) hX3
          rw [HC.out]
          exact ⟨A, n, c, hs0, none, 0, by dsimp only; rw [show max 0 N = 0 by omega]; rfl, Hm.out, hXf, HR.out.ext hXf, fun r hr => .inl hr, World.ownsRow_nil _ _ _ _⟩
    · have q9 : (K == 9) = false := by simpa using h9
      have hcall : callD d ⟨K, nm, tg, bs, N, M, keep⟩ = (d, [], 0, 0) := by
        unfold callD
        dsimp only
        rw [if_neg (by omega), if_neg (by omega), if_neg (by omega), if_neg (by omega), if_neg (by omega), if_neg (by omega), if_neg (by omega), if_neg (by omega), if_neg h8, if_neg h9]
      have HC := Lib.hid (HRC.out.trans hcall)
      clear hcall
      by_cases hK0 : K < 0
      · have t1 : decide (K < 0) = true := by simpa using hK0
        go_wp2_with (first | (with_reducible refine wpL_load_row rfl 28 (.tmp 2) rfl w.heap.size 28 _ 6 rfl bD disk_wide (dk_size _ _ _ _ _ _ _ _) ?_) | (with_reducible refine wpL_store_row rfl 28 (.tmp 4) (.tmp 35) rfl (w.heap.size + 1 + 1) 28 _ _ rfl rfl bZ ((dk_size _ _ _ _ _ _ _ _).trans (dk_size _ _ _ _ _ _ _ _).symm) (dk_one _ _ _ _ _ _ _ _) 6 disk_wide (dk_size _ _ _ _ _ _ _ _) ?_))
        (try simp only [Exit.inBlock, Exit.then]); refine bodyPost_ret (v := .tuple #[.agg #[.slice A n c, .int .i64 d.room, .int .i64 d.fuse, .bool d.down, .int .i64 d.steps, .int .i64 d.read], (.slice none 0 0), (.int .i64 0), (.int .i64 0)]) (res_row_ttt rfl _ (w.heap.size + 1 + 1) 28 _ 6 _ _ _ rfl rfl rfl rfl ?_ disk_wide rfl) rfl ?_
        · exact Blk.setRow_ bZ
        · have hXf := ExtR (a := w) (g := w.heap.size + 1 + 1) (ds := #[.slice A n c, .int .i64 d.room, .int .i64 d.fuse, .bool d.down, .int .i64 d.steps, .int .i64 d.read]) (by omega) hX1
          rw [HC.out]
          exact ⟨A, n, c, hs0, none, 0, rfl, Hm.out, hXf, HR.out.ext hXf, fun r hr => .inl hr, World.ownsRow_nil _ _ _ _⟩
      · have t1 : decide (K < 0) = false := by simpa using hK0
        have t2 : decide (9 < K) = true := by simp; omega
        go_wp2_with (first | (with_reducible refine wpL_load_row rfl 28 (.tmp 2) rfl w.heap.size 28 _ 6 rfl bD disk_wide (dk_size _ _ _ _ _ _ _ _) ?_) | (with_reducible refine wpL_store_row rfl 28 (.tmp 4) (.tmp 35) rfl (w.heap.size + 1 + 1) 28 _ _ rfl rfl bZ ((dk_size _ _ _ _ _ _ _ _).trans (dk_size _ _ _ _ _ _ _ _).symm) (dk_one _ _ _ _ _ _ _ _) 6 disk_wide (dk_size _ _ _ _ _ _ _ _) ?_))
        (try simp only [Exit.inBlock, Exit.then]); refine bodyPost_ret (v := .tuple #[.agg #[.slice A n c, .int .i64 d.room, .int .i64 d.fuse, .bool d.down, .int .i64 d.steps, .int .i64 d.read], (.slice none 0 0), (.int .i64 0), (.int .i64 0)]) (res_row_ttt rfl _ (w.heap.size + 1 + 1) 28 _ 6 _ _ _ rfl rfl rfl rfl ?_ disk_wide rfl) rfl ?_
        · exact Blk.setRow_ bZ
        · have hXf := ExtR (a := w) (g := w.heap.size + 1 + 1) (ds := #[.slice A n c, .int .i64 d.room, .int .i64 d.fuse, .bool d.down, .int .i64 d.steps, .int .i64 d.read]) (by omega) hX1
          rw [HC.out]
          exact ⟨A, n, c, hs0, none, 0, rfl, Hm.out, hXf, HR.out.ext hXf, fun r hr => .inl hr, World.ownsRow_nil _ _ _ _⟩
end Go.Proofs.YtjajbbgebblalaaGreatDoor

namespace Go.Proofs.YtjajbbgebblalaaGreatDoor
open Go.RowKit
set_option linter.unusedVariables false
set_option linter.unusedSimpArgs false
/-- A row is kept where every block of another type than that of one block is. -/
theorem own_keep {w w9 : World} {base g n c : Nat} {e t : TypeId} {A : Option Addr} {s : Nat} {xs : List Value} {cs : Array Value} (h : w.ownsRow base e s (.slice A n c) n xs) (hb : Blk w g t cs) (hk : ∀ g' t' cs', g' ≠ g → Blk w g' t' cs' → Blk w9 g' t' cs') (ht : t ≠ e) : w9.ownsRow base e s (.slice A n c) n xs := by
  refine ⟨h.1, ?_⟩
  rcases h.2 with h2 | ⟨g2, cap, cur, h1, h2, hg2, h3⟩
  · exact .inl h2
  · refine .inr ⟨g2, cap, cur, h1, h2, hk g2 e cur (fun hc => ?_) hg2, h3⟩
    subst hc
    have hb2 : w.heap[g2]? = some (.cells cs t (0, 0)) := hb
    rw [hb2] at hg2
    injection hg2 with hg2
    injection hg2 with _ hg2
    exact ht hg2
theorem own_setRT {w : World} {base g : Nat} {e t : TypeId} {s n : Nat} {v : Value} {xs : List Value} {cs ds : Array Value} (h : w.ownsRow base e s v n xs) (hb : Blk w g t cs) (ht : t ≠ e) : (w.setRow g ds).ownsRow base e s v n xs := by
  refine own_heap h fun k hk => ?_
  simp only [World.setRow, Array.getElem?_modify]
  rw [if_neg]
  intro hc
  rcases h.2 with ⟨rfl, _⟩ | ⟨g2, cap, cur, rfl, _, hg2, _⟩
  · cases hk
  · simp only [Value.ownBlock, Option.some.injEq] at hk
    subst hk
    rw [← hc] at hg2
    have hb2 : w.heap[g]? = some (.cells cs t (0, 0)) := hb
    rw [hb2] at hg2
    injection hg2 with hg2
    injection hg2 with _ hg2
    exact ht hg2
theorem dofl_row {w : World} {B0 n c g : Nat} {A : Option Addr} {hs : List HV} {cs ds : Array Value} (hb : Blk w g 28 cs) (h : OwnFl w B0 A n c hs) : OwnFl (w.setRow g ds) B0 A n c hs :=
  ⟨own_setRT h.1 hb (by decide), fun x hx => own_setRT (h.2 x hx) hb (by decide)⟩
set_option maxRecDepth 100000 in
set_option maxHeartbeats 8000000 in
theorem do_mid {d : Dk} (hI : DkInv d) (o : Op10) (hk : 0 ≤ o.k ∧ o.k ≤ 7) (A : Option Addr) (n c B0 : Nat) (hs0 : List HV) (hmap : hs0.map (·.1) = imgL d) (Bb : Option Addr) (bc : Nat) (AK : Option Addr) (kl kc : Nat) (w : World) (hr : OwnFl w B0 A n c hs0) (hB : B0 ≤ w.heap.size) (hn64 : IsI64 o.n) (hm64 : IsI64 o.m) (hst : d.steps ≤ 4611686018427387904)
    (hbs : Rd w Bb o.b.length (u8s o.b)) (hbl : o.b.length ≤ 140737488355328) :
    Calls Tryz.prog 15 #[.agg #[.slice A n c, .int .i64 d.room, .int .i64 d.fuse, .bool d.down, .int .i64 d.steps, .int .i64 d.read], .agg #[.int .i64 o.k, .string o.name, .string o.tgt, .slice Bb o.b.length bc, .int .i64 o.n, .int .i64 o.m, .slice AK kl kc]] w (DoPost w B0 A hs0 (callD d o)) := by
  have hl0 := hr.len
  have hnn : n ≤ 700 := by have h2 := imgL_len d; rw [← hmap, List.length_map] at h2; have := hI.cnt; omega
  have hIc := inv_call hI o hn64
  have HR := Lib.hid hr
  have Hm := Lib.hid hmap
  have KB := Lib.hid fun W (hx : Ext w W) => rbar_any hI A n c o.k hk o.name o.tgt Bb o.b.length bc (by omega) o.n o.m hn64 hm64 AK kl kc W (hv_fl (hr.ext hx) hmap)
  have HBar := Lib.hid fun h => call_bar (d := d) hk h
  have HStep := Lib.hid fun hk5 h => call_step (d := d) (o := o) hk5 h hI.fuse.1
  have HRd := Lib.hid fun f hk6 h hg => call_read6 (d := d) (o := o) (f := f) hk6 h hg
  have HSz := Lib.hid fun f hk7 h hg => call_size7 (d := d) (o := o) (f := f) hk7 h hg
  have KCh := Lib.hid fun (d' : Dk) (hI' : DkInv d') (hk5 : 0 ≤ o.k ∧ o.k ≤ 5) (hd' : d'.files = chFil d o) (he : erD d o.k o.name o.tgt o.b.length o.n o.m = 0) r1 r2 r4 r5 r3 W (hx : Ext w W) => rchange_any hI hI' o hk5 hd' he A n c B0 hs0 hmap r1 r2 r4 r5 r3 Bb bc AK kl kc W (hr.ext hx) (Nat.le_trans hB hx.size) (hbs.ext hx)
  have HOp := Lib.hid fun h => erD_open (d := d) (K := o.k) (nm := o.name) (tn := o.tgt) (bl := o.b.length) (N := o.n) (M := o.m) h
  obtain ⟨RC, hRC⟩ : ∃ RC, RC = callD d o := ⟨_, rfl⟩
  rw [← hRC] at HBar HStep HRd HSz hIc ⊢
  obtain ⟨E, hE⟩ : ∃ E, E = erD d o.k o.name o.tgt o.b.length o.n o.m := ⟨_, rfl⟩
  rw [← hE] at KB HBar HStep HRd HSz HOp
  have HE := Lib.hid hE
  obtain ⟨K, nm, tg, bs, N, M, keep⟩ := o
  dsimp only at *
  obtain ⟨bl, hbl2⟩ : ∃ bl, bl = bs.length := ⟨_, rfl⟩
  rw [← hbl2] at KB KCh HE HOp hbs hbl ⊢
  have HBS := Lib.hid hbs
  have q8 : (K == 8) = false := by simp; omega
  have q9 : (K == 9) = false := by simp; omega
  have t1 : decide (K < 0) = false := by simp; omega
  have t2 : decide (9 < K) = false := by simp; omega
  clear hr hmap hbs hE hRC hbl2
  go_enter Tryz.func15, Tryz.ntmps15
  go_upto_region 1 with fail
  obtain ⟨W1, hW1⟩ : ∃ W1, W1 = ((w.alloc (.cells #[.slice A n c, .int .i64 d.room, .int .i64 d.fuse, .bool d.down, .int .i64 d.steps, .int .i64 d.read] 28)).alloc (.cells #[.int .i64 K, .string nm, .string tg, .slice Bb bl bc, .int .i64 N, .int .i64 M, .slice AK kl kc] 44)).alloc (.cells #[.slice none 0 0, .int .i64 0, .int .i64 0, .bool false, .int .i64 0, .int .i64 0] 28) := ⟨_, rfl⟩
  have bD : Blk W1 w.heap.size 28 #[.slice A n c, .int .i64 d.room, .int .i64 d.fuse, .bool d.down, .int .i64 d.steps, .int .i64 d.read] := by rw [hW1]; exact BlkA (BlkA (BlkN rfl))
  have bZ : Blk W1 (w.heap.size + 1 + 1) 28 #[.slice none 0 0, .int .i64 0, .int .i64 0, .bool false, .int .i64 0, .int .i64 0] := by rw [hW1]; exact BlkN (by simp)
  have bO : Blk W1 (w.heap.size + 1) 44 #[.int .i64 K, .string nm, .string tg, .slice Bb bl bc, .int .i64 N, .int .i64 M, .slice AK kl kc] := by rw [hW1]; exact BlkA (BlkN (by simp))
  have hX1 : Ext w W1 := by rw [hW1]; exact ExtA (ExtA (ExtA (Ext.rfl' w)))
  rw [← hW1]
  clear hW1
  have o0 := bO.cell 0
  go_upto_region 11 with (first | (with_reducible refine wpL_load_row rfl 28 (.tmp 2) rfl w.heap.size 28 _ 6 rfl bD disk_wide (dk_size _ _ _ _ _ _ _ _) ?_) | (with_reducible refine wpL_load_row rfl 44 (.tmp 3) rfl (w.heap.size + 1) 44 _ 7 rfl bO op_wide (op_size _ _ _ _ _ _ _ _ _ _ _) ?_) | (go_at_call 58; (with_reducible refine (KB.out _ hX1).mono ?_); rintro e W2 ⟨rfl, hx2⟩))
  have bD2 := BlkE bD hx2
  have bO2 := BlkE bO hx2
  have bZ2 := BlkE bZ hx2
  have hX2 := hX1.tr hx2
  clear bD bO bZ hX1 hx2 KB o0
  by_cases he0 : E = 0
  case neg =>
    have hc := HBar.out he0
    have HC := Lib.hid hc
    have t3 : ((E : Int) == 0) = false := by simp; omega
    have t4 : ((E : Int) != 0) = true := by simp; omega
    clear hc
    go_wp2_with (first | (with_reducible refine wpL_load_row rfl 28 (.tmp 2) rfl w.heap.size 28 _ 6 rfl bD2 disk_wide (dk_size _ _ _ _ _ _ _ _) ?_) | (with_reducible refine wpL_store_row rfl 28 (.tmp 4) (.tmp 41) rfl (w.heap.size + 1 + 1) 28 _ _ rfl rfl bZ2 ((dk_size _ _ _ _ _ _ _ _).trans (dk_size _ _ _ _ _ _ _ _).symm) (dk_one _ _ _ _ _ _ _ _) 6 disk_wide (dk_size _ _ _ _ _ _ _ _) ?_))
    (try simp only [Exit.inBlock, Exit.then]); refine bodyPost_ret (v := .tuple #[.agg #[.slice A n c, .int .i64 d.room, .int .i64 d.fuse, .bool d.down, .int .i64 d.steps, .int .i64 d.read], (.slice none 0 0), (.int .i64 0), (.int .i64 (E : Nat))]) (res_row_ttt rfl _ (w.heap.size + 1 + 1) 28 _ 6 _ _ _ rfl rfl rfl rfl ?_ disk_wide rfl) rfl ?_
    · exact Blk.setRow_ bZ2
    · have hXf := ExtR (a := w) (g := w.heap.size + 1 + 1) (ds := #[.slice A n c, .int .i64 d.room, .int .i64 d.fuse, .bool d.down, .int .i64 d.steps, .int .i64 d.read]) (by omega) hX2
      rw [HC.out]
      exact ⟨A, n, c, hs0, none, 0, rfl, Hm.out, hXf, HR.out.ext hXf, fun r hr => .inl hr, World.ownsRow_nil _ _ _ _⟩
  subst he0
  obtain ⟨hdn, hrt, h3, h4, h5, h6, h7, h8⟩ := HOp.out rfl
  clear hdn hrt h3
  have p0 := bO2.cell 0
  by_cases hk5 : K ≤ 5
  case neg =>
    have hk1 : K ≠ 0 := by omega
    have hany := h5 hk1
    obtain ⟨k, f, hi, hkk, hfn, hg, hfm⟩ : ∃ (k : Nat) (f : Fil), atI (imgL d) nm = (k : Nat) ∧ (imgL d)[k]? = some f.fv ∧ f.name = nm ∧ getF d nm = some f ∧ f ∈ d.files := by
      rcases at_img hI.nd nm with ⟨ha, _⟩ | ⟨k, f, _, h⟩
      · rw [hany] at ha; cases ha
      · exact ⟨k, f, h⟩
    have hlf : lenF d nm = f.data.length := by unfold lenF; rw [hg]; rfl
    rw [hlf] at h8
    have hkn : k < n := by have h1 := (List.getElem?_eq_some_iff.1 hkk).1; rw [imgL_len] at h1; have h2 := imgL_len d; rw [← Hm.out, List.length_map] at h2; omega
    obtain ⟨b, oo, f2, Af, cf, hfk, rfl, hc0, hof⟩ := ownfl_at HR.out hkn
    have hf2 : f2 = f.fv := by
      rw [← Hm.out, List.getElem?_map, hfk] at hkk
      injection hkk
    subst hf2
    have hcf := own_le' hof
    have hfs := (img_small hI _ (List.mem_of_getElem? hkk)).1
    have KA := Lib.hid fun W (hx : Ext w W) => rat_any (some ⟨b, oo, none⟩) n c (imgL d) d.room d.fuse d.steps d.read d.down nm W (hv_fl (HR.out.ext hx) Hm.out) (by simp only [maxLen]; omega)
    rw [hi] at KA
    have Hat := Lib.hid hi
    have e1 : w.cell? ⟨b, oo + k * 3 + 1, none⟩ = some (.slice Af f.fv.data.length cf) := hc0 1 _ rfl
    have Hof := Lib.hid hof
    obtain ⟨fb, hfb⟩ : ∃ fb, fb = f.data := ⟨_, rfl⟩
    have hfv : f.fv.data = fb := hfb.symm
    rw [hfv] at e1 hcf hfs Hof
    rw [← hfb] at h8
    obtain ⟨n0, hn0⟩ : ∃ n0, n0 = fb.length := ⟨_, rfl⟩
    rw [← hn0] at e1 hcf hfs h8
    have Hn0 := Lib.hid hn0
    have HG := Lib.hid hg
    have Hfb := Lib.hid hfb
    clear hany hi hkk hfn hg hfm hlf hfk hc0 hof hfv hn0 h4 h5 h6 h7 hfb KCh HStep
    by_cases h66 : K = 6
    · subst h66
      have hc := HRd.out f rfl rfl HG.out
      rw [← Hfb.out] at hc
      have HC := Lib.hid hc
      have h8 := h8 rfl
      obtain ⟨i, rfl⟩ : ∃ i : Nat, N = (i : Nat) := ⟨N.toNat, by omega⟩
      obtain ⟨m, rfl⟩ : ∃ m : Nat, M = (m : Nat) := ⟨M.toNat, by omega⟩
      obtain ⟨q, hq⟩ : ∃ q, q = i + m := ⟨_, rfl⟩
      have hqn : q ≤ n0 := by omega
      have hiq : i ≤ q := by omega
      obtain ⟨A7, hsl, hrd⟩ := slice_lh Af n0 cf i q hiq hqn hcf
      have hlq : q - i = m := by omega
      rw [hlq] at hsl hrd
      have hmt : ((fb.drop i).take m).length = m := by rw [List.length_take, List.length_drop]; have := Hn0.out; omega
      have KC := Lib.hid fun W (hx : Ext w W) => copy_any A7 m (cf - i) ((fb.drop i).take m) W (hrd W fb (by rw [Hn0.out]; exact rd_own (own_ext hx Hof.out))) (by omega)
      unfold NewB at KC
      rw [hmt] at KC
      have cw : IntKind.i64.wrap ((i : Int) + (m : Int)) = (q : Int) := by rw [IntKind.wrap_i64]; omega
      have f5 := bD2.cell 5
      have y5 := bD2.frozen 5
      have o5 := bO2.cell 5
      have Hmt := Lib.hid hmt
      clear hc hmt hrd h8 hlq hq HRd HSz HBar
      go_upto_region 15 with fail
      obtain ⟨R, hRr⟩ : ∃ R, R = wrap64 (d.read + (m : Nat)) := ⟨_, rfl⟩
      rw [← hRr]
      have bD3 := Blk_eq (BlkS (i := 5) (u := .int .i64 R) bD2) (cs' := #[.slice (some ⟨b, oo, none⟩) n c, .int .i64 d.room, .int .i64 d.fuse, .bool d.down, .int .i64 d.steps, .int .i64 R]) rfl
      have bO3 := BlkF (p := ⟨w.heap.size, 5, none⟩) (u := .int .i64 R) (show w.heap.size + 1 ≠ w.heap.size by omega) bO2
      have bZ3 := BlkF (p := ⟨w.heap.size, 5, none⟩) (u := .int .i64 R) (show w.heap.size + 1 + 1 ≠ w.heap.size by omega) bZ2
      have hX3 : Ext w (World.setCell W2 ⟨w.heap.size, 5, none⟩ (.int .i64 R)) := ExtS (Nat.le_refl _) hX2
      clear bD2 bO2 bZ2 hX2
      generalize World.setCell W2 ⟨w.heap.size, 5, none⟩ (.int .i64 R) = W3 at *
      have bD2 := bD3
      have bO2 := bO3
      have bZ2 := bZ3
      have hX2 := hX3
      clear bD3 bO3 bZ3 hX3
      have HRr := Lib.hid hRr
      clear f5 y5 o5 p0 hRr
      have KA2 := Lib.hid fun W (hx : Ext w W) => rat_any (some ⟨b, oo, none⟩) n c (imgL d) d.room d.fuse d.steps R d.down nm W (hv_fl (HR.out.ext hx) Hm.out) (by simp only [maxLen]; omega)
      rw [Hat.out] at KA2
      -- REGION15
      refine wp_region_held_drew (S := fun w' => Ext w w' ∧ Blk w' w.heap.size 28 #[.slice (some ⟨b, oo, none⟩) n c, .int .i64 d.room, .int .i64 d.fuse, .bool d.down, .int .i64 d.steps, .int .i64 R] ∧ Blk w' (w.heap.size + 1) 44 #[.int .i64 6, .string nm, .string tg, .slice Bb bl bc, .int .i64 (i : Nat), .int .i64 (m : Nat), .slice AK kl kc]) (by kernel_rfl) ⟨ExtD hX2, BlkD bD2, BlkD bO2⟩ (fun hS => ?_)
      refine takeD (some 52) (i := 0) (oi := ⟨some 52, _, _, _, _, _⟩) (v := .agg #[.slice (some ⟨b, oo, none⟩) n c, .int .i64 d.room, .int .i64 d.fuse, .bool d.down, .int .i64 d.steps, .int .i64 R]) rfl rfl (by kernel_rfl) (by kernel_rfl) (by kernel_rfl) (fun _ _ _ h => h) (Or.inl ⟨by kernel_rfl, fun w' hw => by have hc0 := hw.2.1.cell 0; have hc1 := hw.2.1.cell 1; have hc2 := hw.2.1.cell 2; have hc3 := hw.2.1.cell 3; have hc4 := hw.2.1.cell 4; have hc5 := hw.2.1.cell 5; go_simp⟩) hS ?_; (try simp only [Act.put, List.setIfInBounds_toArray, List.set_cons_zero, List.set_cons_succ])
      refine takeD (some 53) (i := 1) (oi := ⟨some 53, _, _, _, _, _⟩) (v := .pointer (some ⟨w.heap.size, 0, none⟩)) rfl rfl (by kernel_rfl) (by kernel_rfl) (by kernel_rfl) (fun _ _ _ h => h) (Or.inl ⟨by kernel_rfl, fun w hw => by go_simp⟩) hS ?_; (try simp only [Act.put, List.setIfInBounds_toArray, List.set_cons_zero, List.set_cons_succ])
      refine takeD (some 54) (i := 2) (oi := ⟨some 54, _, _, _, _, _⟩) (v := .slice (some ⟨b, oo, none⟩) n c) rfl rfl (by kernel_rfl) (by kernel_rfl) (by kernel_rfl) (fun _ _ _ h => h) (Or.inl ⟨by kernel_rfl, fun w' hw => by have hc0 := hw.2.1.cell 0; go_simp⟩) hS ?_; (try simp only [Act.put, List.setIfInBounds_toArray, List.set_cons_zero, List.set_cons_succ])
      refine takeD (some 55) (i := 3) (oi := ⟨some 55, _, _, _, _, _⟩) (v := .agg #[.slice (some ⟨b, oo, none⟩) n c, .int .i64 d.room, .int .i64 d.fuse, .bool d.down, .int .i64 d.steps, .int .i64 R]) rfl rfl (by kernel_rfl) (by kernel_rfl) (by kernel_rfl) (fun _ _ _ h => h) (Or.inl ⟨by kernel_rfl, fun w' hw => by have hc0 := hw.2.1.cell 0; have hc1 := hw.2.1.cell 1; have hc2 := hw.2.1.cell 2; have hc3 := hw.2.1.cell 3; have hc4 := hw.2.1.cell 4; have hc5 := hw.2.1.cell 5; go_simp⟩) hS ?_; (try simp only [Act.put, List.setIfInBounds_toArray, List.set_cons_zero, List.set_cons_succ])
      refine takeD (some 56) (i := 4) (oi := ⟨some 56, _, _, _, _, _⟩) (v := .pointer (some ⟨w.heap.size + 1, 1, none⟩)) rfl rfl (by kernel_rfl) (by kernel_rfl) (by kernel_rfl) (fun _ _ _ h => h) (Or.inl ⟨by kernel_rfl, fun w hw => by go_simp⟩) hS ?_; (try simp only [Act.put, List.setIfInBounds_toArray, List.set_cons_zero, List.set_cons_succ])
      refine takeD (some 57) (i := 5) (oi := ⟨some 57, _, _, _, _, _⟩) (v := .string nm) rfl rfl (by kernel_rfl) (by kernel_rfl) (by kernel_rfl) (fun _ _ _ h => h) (Or.inl ⟨by kernel_rfl, fun w' hw => by have hc0 := hw.2.2.cell 1; go_simp⟩) hS ?_; (try simp only [Act.put, List.setIfInBounds_toArray, List.set_cons_zero, List.set_cons_succ])
      refine takeD (some 62) (i := 10) (oi := ⟨some 62, _, _, _, _, _⟩) (v := .pointer (some ⟨w.heap.size + 1, 4, none⟩)) rfl rfl (by kernel_rfl) (by kernel_rfl) (by kernel_rfl) (fun _ _ _ h => h) (Or.inl ⟨by kernel_rfl, fun w hw => by go_simp⟩) hS ?_; (try simp only [Act.put, List.setIfInBounds_toArray, List.set_cons_zero, List.set_cons_succ])
      refine takeD (some 63) (i := 11) (oi := ⟨some 63, _, _, _, _, _⟩) (v := .int .i64 (i : Nat)) rfl rfl (by kernel_rfl) (by kernel_rfl) (by kernel_rfl) (fun _ _ _ h => h) (Or.inl ⟨by kernel_rfl, fun w' hw => by have hc0 := hw.2.2.cell 4; go_simp⟩) hS ?_; (try simp only [Act.put, List.setIfInBounds_toArray, List.set_cons_zero, List.set_cons_succ])
      refine takeD (some 64) (i := 12) (oi := ⟨some 64, _, _, _, _, _⟩) (v := .pointer (some ⟨w.heap.size + 1, 4, none⟩)) rfl rfl (by kernel_rfl) (by kernel_rfl) (by kernel_rfl) (fun _ _ _ h => h) (Or.inl ⟨by kernel_rfl, fun w hw => by go_simp⟩) hS ?_; (try simp only [Act.put, List.setIfInBounds_toArray, List.set_cons_zero, List.set_cons_succ])
      refine takeD (some 65) (i := 13) (oi := ⟨some 65, _, _, _, _, _⟩) (v := .int .i64 (i : Nat)) rfl rfl (by kernel_rfl) (by kernel_rfl) (by kernel_rfl) (fun _ _ _ h => h) (Or.inl ⟨by kernel_rfl, fun w' hw => by have hc0 := hw.2.2.cell 4; go_simp⟩) hS ?_; (try simp only [Act.put, List.setIfInBounds_toArray, List.set_cons_zero, List.set_cons_succ])
      refine takeD (some 66) (i := 14) (oi := ⟨some 66, _, _, _, _, _⟩) (v := .pointer (some ⟨w.heap.size + 1, 5, none⟩)) rfl rfl (by kernel_rfl) (by kernel_rfl) (by kernel_rfl) (fun _ _ _ h => h) (Or.inl ⟨by kernel_rfl, fun w hw => by go_simp⟩) hS ?_; (try simp only [Act.put, List.setIfInBounds_toArray, List.set_cons_zero, List.set_cons_succ])
      refine takeD (some 67) (i := 15) (oi := ⟨some 67, _, _, _, _, _⟩) (v := .int .i64 (m : Nat)) rfl rfl (by kernel_rfl) (by kernel_rfl) (by kernel_rfl) (fun _ _ _ h => h) (Or.inl ⟨by kernel_rfl, fun w' hw => by have hc0 := hw.2.2.cell 5; go_simp⟩) hS ?_; (try simp only [Act.put, List.setIfInBounds_toArray, List.set_cons_zero, List.set_cons_succ])
      refine takeD (some 68) (i := 16) (oi := ⟨some 68, _, _, _, _, _⟩) (v := .int .i64 (q : Nat)) rfl rfl (by kernel_rfl) (by kernel_rfl) (by kernel_rfl) (fun _ _ _ h => h) (Or.inl ⟨by kernel_rfl, fun w hw => by go_simp⟩) hS ?_; (try simp only [Act.put, List.setIfInBounds_toArray, List.set_cons_zero, List.set_cons_succ])
      refine wpAnyH_ready (rs := [6]) (by kernel_rfl) (by simp) (AllReadyH.cons (o := ⟨some 58, _, _, _, _, _⟩) rfl (fun K hK => ?_) (AllReadyH.nil))
      refine step_callG rfl (some 58) rfl 24 _ Tryz.func24 (by kernel_rfl) (by kernel_rfl) _ _ rfl #[.agg #[.slice (some ⟨b, oo, none⟩) n c, .int .i64 d.room, .int .i64 d.fuse, .bool d.down, .int .i64 d.steps, .int .i64 R], .string nm] (by first | rfl | simp [Act.eval, Act.put]) _ (KA2.out _ hS.1) ?_; rintro e w4 ⟨rfl, hx4⟩; refine ⟨_, rfl, hK.out _ _ ⟨Ext.tr hS.1 hx4, BlkE hS.2.1 hx4, BlkE hS.2.2 hx4⟩ ?_⟩; intro hS; clear hK; (try simp only [Act.put, List.setIfInBounds_toArray, List.set_cons_zero, List.set_cons_succ])
      refine takeD (some 59) (i := 7) (oi := ⟨some 59, _, _, _, _, _⟩) (v := .pointer (some ⟨b, oo + k * 3, none⟩)) rfl rfl (by kernel_rfl) (by kernel_rfl) (by kernel_rfl) (fun _ _ _ h => h) (Or.inl ⟨by kernel_rfl, fun w hw => by go_simp⟩) hS ?_; (try simp only [Act.put, List.setIfInBounds_toArray, List.set_cons_zero, List.set_cons_succ])
      refine takeD (some 60) (i := 8) (oi := ⟨some 60, _, _, _, _, _⟩) (v := .pointer (some ⟨b, oo + k * 3 + 1, none⟩)) rfl rfl (by kernel_rfl) (by kernel_rfl) (by kernel_rfl) (fun _ _ _ h => h) (Or.inl ⟨by kernel_rfl, fun w hw => by go_simp⟩) hS ?_; (try simp only [Act.put, List.setIfInBounds_toArray, List.set_cons_zero, List.set_cons_succ])
      refine takeD (some 61) (i := 9) (oi := ⟨some 61, _, _, _, _, _⟩) (v := .slice Af n0 cf) rfl rfl (by kernel_rfl) (by kernel_rfl) (by kernel_rfl) (fun _ _ _ h => h) (Or.inl ⟨by kernel_rfl, fun w' hw => by have hc0 := Ext.cell hw.1 e1; go_simp⟩) hS ?_; (try simp only [Act.put, List.setIfInBounds_toArray, List.set_cons_zero, List.set_cons_succ])
      refine takeD (some 69) (i := 17) (oi := ⟨some 69, _, _, _, _, _⟩) (v := .slice A7 m (cf - i)) rfl rfl (by kernel_rfl) (by kernel_rfl) (by kernel_rfl) (fun _ _ _ h => h) (Or.inl ⟨by kernel_rfl, fun w hw => by go_simp⟩) hS ?_; (try simp only [Act.put, List.setIfInBounds_toArray, List.set_cons_zero, List.set_cons_succ])
      refine wpAnyH_ready (rs := [18]) (by kernel_rfl) (by simp) (AllReadyH.cons (o := ⟨some 70, _, _, _, _, _⟩) rfl (fun K hK => ?_) (AllReadyH.nil))
      refine step_callG rfl (some 70) rfl 31 _ Tryz.func31 (by kernel_rfl) (by kernel_rfl) _ _ rfl #[.slice A7 m (cf - i)] (by first | rfl | simp [Act.eval, Act.put]) _ (KC.out _ hS.1) ?_; rintro e w5 ⟨A8, c8, rfl, hx5, hou⟩; refine ⟨_, rfl, hK.out _ _ ⟨Ext.tr hS.1 hx5, BlkE hS.2.1 hx5, BlkE hS.2.2 hx5⟩ ?_⟩; intro hS; clear hK; (try simp only [Act.put, List.setIfInBounds_toArray, List.set_cons_zero, List.set_cons_succ])
      have bz := BlkE (BlkE (BlkD bZ2) hx4) hx5
      refine wpAnyH_ready (rs := [19]) (by kernel_rfl) (by simp) (AllReadyH.cons (o := ⟨none, _, _, _, _, _⟩) rfl (fun K hK => ?_) (AllReadyH.nil))
      refine step_store rfl none rfl 28 (.tmp 4) (.tmp 52) rfl (w.heap.size + 1 + 1) 28 _ #[.slice (some ⟨b, oo, none⟩) n c, .int .i64 d.room, .int .i64 d.fuse, .bool d.down, .int .i64 d.steps, .int .i64 R] rfl rfl bz rfl (dk_one _ _ _ _ _ _ _ _) 6 disk_wide rfl ?_; intro w9 bZ9 hkeep hext; have own_row4 : Hid (∀ A5 {n5 c5 : Nat} {B5 : Nat} {xs5 : List Value}, World.ownsRow _ B5 5 1 (.slice A5 n5 c5) n5 xs5 → w9.ownsRow B5 5 1 (.slice A5 n5 c5) n5 xs5) := Lib.hid (fun A5 n5 c5 B5 xs5 h => own_keep h bz hkeep (by decide)); refine hK.out _ _ ⟨hext _ (by omega) hS.1, hkeep _ _ _ (by omega) hS.2.1, hkeep _ _ _ (by omega) hS.2.2⟩ ?_; intro hS; clear hkeep hext hK; (try simp only [Act.put, List.setIfInBounds_toArray, List.set_cons_zero, List.set_cons_succ])
      refine takeD (some 5) (i := 20) (oi := ⟨some 5, _, _, _, _, _⟩) (v := .slice A8 m c8) rfl rfl (by kernel_rfl) (by kernel_rfl) (by kernel_rfl) (fun _ _ _ h => h) (Or.inl ⟨by kernel_rfl, fun w hw => by go_simp⟩) hS ?_; (try simp only [Act.put, List.setIfInBounds_toArray, List.set_cons_zero, List.set_cons_succ])
      refine takeD (some 6) (i := 21) (oi := ⟨some 6, _, _, _, _, _⟩) (v := .int .i64 0) rfl rfl (by kernel_rfl) (by kernel_rfl) (by kernel_rfl) (fun _ _ _ h => h) (Or.inl ⟨by kernel_rfl, fun w hw => by go_simp⟩) hS ?_; (try simp only [Act.put, List.setIfInBounds_toArray, List.set_cons_zero, List.set_cons_succ])
      refine takeD (some 7) (i := 22) (oi := ⟨some 7, _, _, _, _, _⟩) (v := .int .i64 0) rfl rfl (by kernel_rfl) (by kernel_rfl) (by kernel_rfl) (fun _ _ _ h => h) (Or.inl ⟨by kernel_rfl, fun w hw => by go_simp⟩) hS ?_; (try simp only [Act.put, List.setIfInBounds_toArray, List.set_cons_zero, List.set_cons_succ])
      refine wpAnyH_done (by kernel_rfl) ?_ _
      -- END15
      go_wp2_with fail
      (try simp only [Exit.inBlock, Exit.then]); refine bodyPost_ret (v := .tuple #[.agg #[.slice (some ⟨b, oo, none⟩) n c, .int .i64 d.room, .int .i64 d.fuse, .bool d.down, .int .i64 d.steps, .int .i64 R], (.slice A8 m c8), (.int .i64 0), (.int .i64 0)]) (res_row_ttt rfl _ (w.heap.size + 1 + 1) 28 _ 6 _ _ _ rfl rfl rfl rfl ?_ disk_wide rfl) rfl ?_
      · exact bZ9
      · have hou2 : w9.ownsRow w.heap.size 5 1 (.slice A8 m c8) m (u8s ((fb.drop i).take m)) := own_base (own_row4.out _ hou) (by have := hX2.size; have h9 := hx4.size; simp at h9; omega)
        have hXf := hS.1
        rw [HC.out]
        refine ⟨some ⟨b, oo, none⟩, n, c, hs0, A8, c8, ?_, Hm.out, hXf, HR.out.ext hXf, fun r hr => .inl hr, ?_⟩
        · dsimp only
          rw [Int.toNat_natCast, Int.toNat_natCast, Hmt.out, HRr.out]
          rfl
        · dsimp only
          rw [Int.toNat_natCast, Int.toNat_natCast, Hmt.out]
          exact hou2
    · obtain rfl : K = 7 := by omega
      have hc := HSz.out f rfl rfl HG.out
      rw [← Hfb.out] at hc
      have HC := Lib.hid hc
      clear hc HRd HSz HBar h8 h66
      go_upto_region 17 with fail
      -- REGION17
      refine wp_region_held_drew (S := fun w' => Ext w w' ∧ Blk w' w.heap.size 28 #[.slice (some ⟨b, oo, none⟩) n c, .int .i64 d.room, .int .i64 d.fuse, .bool d.down, .int .i64 d.steps, .int .i64 d.read] ∧ Blk w' (w.heap.size + 1) 44 #[.int .i64 7, .string nm, .string tg, .slice Bb bl bc, .int .i64 N, .int .i64 M, .slice AK kl kc]) (by kernel_rfl) ⟨ExtD hX2, BlkD bD2, BlkD bO2⟩ (fun hS => ?_)
      refine takeD (some 74) (i := 0) (oi := ⟨some 74, _, _, _, _, _⟩) (v := .agg #[.slice (some ⟨b, oo, none⟩) n c, .int .i64 d.room, .int .i64 d.fuse, .bool d.down, .int .i64 d.steps, .int .i64 d.read]) rfl rfl (by kernel_rfl) (by kernel_rfl) (by kernel_rfl) (fun _ _ _ h => h) (Or.inl ⟨by kernel_rfl, fun w' hw => by have hc0 := hw.2.1.cell 0; have hc1 := hw.2.1.cell 1; have hc2 := hw.2.1.cell 2; have hc3 := hw.2.1.cell 3; have hc4 := hw.2.1.cell 4; have hc5 := hw.2.1.cell 5; go_simp⟩) hS ?_; (try simp only [Act.put, List.setIfInBounds_toArray, List.set_cons_zero, List.set_cons_succ])
      refine takeD (some 75) (i := 1) (oi := ⟨some 75, _, _, _, _, _⟩) (v := .pointer (some ⟨w.heap.size, 0, none⟩)) rfl rfl (by kernel_rfl) (by kernel_rfl) (by kernel_rfl) (fun _ _ _ h => h) (Or.inl ⟨by kernel_rfl, fun w hw => by go_simp⟩) hS ?_; (try simp only [Act.put, List.setIfInBounds_toArray, List.set_cons_zero, List.set_cons_succ])
      refine takeD (some 76) (i := 2) (oi := ⟨some 76, _, _, _, _, _⟩) (v := .slice (some ⟨b, oo, none⟩) n c) rfl rfl (by kernel_rfl) (by kernel_rfl) (by kernel_rfl) (fun _ _ _ h => h) (Or.inl ⟨by kernel_rfl, fun w' hw => by have hc0 := hw.2.1.cell 0; go_simp⟩) hS ?_; (try simp only [Act.put, List.setIfInBounds_toArray, List.set_cons_zero, List.set_cons_succ])
      refine takeD (some 77) (i := 3) (oi := ⟨some 77, _, _, _, _, _⟩) (v := .agg #[.slice (some ⟨b, oo, none⟩) n c, .int .i64 d.room, .int .i64 d.fuse, .bool d.down, .int .i64 d.steps, .int .i64 d.read]) rfl rfl (by kernel_rfl) (by kernel_rfl) (by kernel_rfl) (fun _ _ _ h => h) (Or.inl ⟨by kernel_rfl, fun w' hw => by have hc0 := hw.2.1.cell 0; have hc1 := hw.2.1.cell 1; have hc2 := hw.2.1.cell 2; have hc3 := hw.2.1.cell 3; have hc4 := hw.2.1.cell 4; have hc5 := hw.2.1.cell 5; go_simp⟩) hS ?_; (try simp only [Act.put, List.setIfInBounds_toArray, List.set_cons_zero, List.set_cons_succ])
      refine takeD (some 78) (i := 4) (oi := ⟨some 78, _, _, _, _, _⟩) (v := .pointer (some ⟨w.heap.size + 1, 1, none⟩)) rfl rfl (by kernel_rfl) (by kernel_rfl) (by kernel_rfl) (fun _ _ _ h => h) (Or.inl ⟨by kernel_rfl, fun w hw => by go_simp⟩) hS ?_; (try simp only [Act.put, List.setIfInBounds_toArray, List.set_cons_zero, List.set_cons_succ])
      refine takeD (some 79) (i := 5) (oi := ⟨some 79, _, _, _, _, _⟩) (v := .string nm) rfl rfl (by kernel_rfl) (by kernel_rfl) (by kernel_rfl) (fun _ _ _ h => h) (Or.inl ⟨by kernel_rfl, fun w' hw => by have hc0 := hw.2.2.cell 1; go_simp⟩) hS ?_; (try simp only [Act.put, List.setIfInBounds_toArray, List.set_cons_zero, List.set_cons_succ])
      refine wpAnyH_ready (rs := [6]) (by kernel_rfl) (by simp) (AllReadyH.cons (o := ⟨some 80, _, _, _, _, _⟩) rfl (fun K hK => ?_) (AllReadyH.nil))
      refine step_callG rfl (some 80) rfl 24 _ Tryz.func24 (by kernel_rfl) (by kernel_rfl) _ _ rfl #[.agg #[.slice (some ⟨b, oo, none⟩) n c, .int .i64 d.room, .int .i64 d.fuse, .bool d.down, .int .i64 d.steps, .int .i64 d.read], .string nm] (by first | rfl | simp [Act.eval, Act.put]) _ (KA.out _ hS.1) ?_; rintro e w4 ⟨rfl, hx4⟩; refine ⟨_, rfl, hK.out _ _ ⟨Ext.tr hS.1 hx4, BlkE hS.2.1 hx4, BlkE hS.2.2 hx4⟩ ?_⟩; intro hS; clear hK; (try simp only [Act.put, List.setIfInBounds_toArray, List.set_cons_zero, List.set_cons_succ])
      refine takeD (some 81) (i := 7) (oi := ⟨some 81, _, _, _, _, _⟩) (v := .pointer (some ⟨b, oo + k * 3, none⟩)) rfl rfl (by kernel_rfl) (by kernel_rfl) (by kernel_rfl) (fun _ _ _ h => h) (Or.inl ⟨by kernel_rfl, fun w hw => by go_simp⟩) hS ?_; (try simp only [Act.put, List.setIfInBounds_toArray, List.set_cons_zero, List.set_cons_succ])
      refine takeD (some 82) (i := 8) (oi := ⟨some 82, _, _, _, _, _⟩) (v := .pointer (some ⟨b, oo + k * 3 + 1, none⟩)) rfl rfl (by kernel_rfl) (by kernel_rfl) (by kernel_rfl) (fun _ _ _ h => h) (Or.inl ⟨by kernel_rfl, fun w hw => by go_simp⟩) hS ?_; (try simp only [Act.put, List.setIfInBounds_toArray, List.set_cons_zero, List.set_cons_succ])
      refine takeD (some 83) (i := 9) (oi := ⟨some 83, _, _, _, _, _⟩) (v := .slice Af n0 cf) rfl rfl (by kernel_rfl) (by kernel_rfl) (by kernel_rfl) (fun _ _ _ h => h) (Or.inl ⟨by kernel_rfl, fun w' hw => by have hc0 := Ext.cell hw.1 e1; go_simp⟩) hS ?_; (try simp only [Act.put, List.setIfInBounds_toArray, List.set_cons_zero, List.set_cons_succ])
      refine takeD (some 84) (i := 10) (oi := ⟨some 84, _, _, _, _, _⟩) (v := .int .i64 (n0 : Nat)) rfl rfl (by kernel_rfl) (by kernel_rfl) (by kernel_rfl) (fun _ _ _ h => h) (Or.inl ⟨by kernel_rfl, fun w hw => by go_simp⟩) hS ?_; (try simp only [Act.put, List.setIfInBounds_toArray, List.set_cons_zero, List.set_cons_succ])
      have bz := BlkE (BlkD bZ2) hx4
      refine wpAnyH_ready (rs := [11]) (by kernel_rfl) (by simp) (AllReadyH.cons (o := ⟨none, _, _, _, _, _⟩) rfl (fun K hK => ?_) (AllReadyH.nil))
      refine step_store rfl none rfl 28 (.tmp 4) (.tmp 74) rfl (w.heap.size + 1 + 1) 28 _ #[.slice (some ⟨b, oo, none⟩) n c, .int .i64 d.room, .int .i64 d.fuse, .bool d.down, .int .i64 d.steps, .int .i64 d.read] rfl rfl bz rfl (dk_one _ _ _ _ _ _ _ _) 6 disk_wide rfl ?_; intro w9 bZ9 hkeep hext; have own_row4 : Hid (∀ A5 {n5 c5 : Nat} {B5 : Nat} {xs5 : List Value}, World.ownsRow _ B5 5 1 (.slice A5 n5 c5) n5 xs5 → w9.ownsRow B5 5 1 (.slice A5 n5 c5) n5 xs5) := Lib.hid (fun A5 n5 c5 B5 xs5 h => own_keep h bz hkeep (by decide)); refine hK.out _ _ ⟨hext _ (by omega) hS.1, hkeep _ _ _ (by omega) hS.2.1, hkeep _ _ _ (by omega) hS.2.2⟩ ?_; intro hS; clear hkeep hext hK; (try simp only [Act.put, List.setIfInBounds_toArray, List.set_cons_zero, List.set_cons_succ])
      refine takeD (some 5) (i := 12) (oi := ⟨some 5, _, _, _, _, _⟩) (v := .slice none 0 0) rfl rfl (by kernel_rfl) (by kernel_rfl) (by kernel_rfl) (fun _ _ _ h => h) (Or.inl ⟨by kernel_rfl, fun w hw => by go_simp⟩) hS ?_; (try simp only [Act.put, List.setIfInBounds_toArray, List.set_cons_zero, List.set_cons_succ])
      refine takeD (some 6) (i := 13) (oi := ⟨some 6, _, _, _, _, _⟩) (v := .int .i64 (n0 : Nat)) rfl rfl (by kernel_rfl) (by kernel_rfl) (by kernel_rfl) (fun _ _ _ h => h) (Or.inl ⟨by kernel_rfl, fun w hw => by go_simp⟩) hS ?_; (try simp only [Act.put, List.setIfInBounds_toArray, List.set_cons_zero, List.set_cons_succ])
      refine takeD (some 7) (i := 14) (oi := ⟨some 7, _, _, _, _, _⟩) (v := .int .i64 0) rfl rfl (by kernel_rfl) (by kernel_rfl) (by kernel_rfl) (fun _ _ _ h => h) (Or.inl ⟨by kernel_rfl, fun w hw => by go_simp⟩) hS ?_; (try simp only [Act.put, List.setIfInBounds_toArray, List.set_cons_zero, List.set_cons_succ])
      refine wpAnyH_done (by kernel_rfl) ?_ _
      -- END17
      go_wp2_with fail
      (try simp only [Exit.inBlock, Exit.then]); refine bodyPost_ret (v := .tuple #[.agg #[.slice (some ⟨b, oo, none⟩) n c, .int .i64 d.room, .int .i64 d.fuse, .bool d.down, .int .i64 d.steps, .int .i64 d.read], (.slice none 0 0), (.int .i64 (n0 : Nat)), (.int .i64 0)]) (res_row_ttt rfl _ (w.heap.size + 1 + 1) 28 _ 6 _ _ _ rfl rfl rfl rfl ?_ disk_wide rfl) rfl ?_
      · exact bZ9
      · have hXf := hS.1
        rw [HC.out]
        exact ⟨some ⟨b, oo, none⟩, n, c, hs0, none, 0, by rw [Hn0.out]; rfl, Hm.out, hXf, HR.out.ext hXf, fun r hr => .inl hr, World.ownsRow_nil _ _ _ _⟩
  case pos =>
    have hk5' : 0 ≤ K ∧ K ≤ 5 := ⟨hk.1, hk5⟩
    have t6 : (K == 6) = false := by simp; omega
    have t7 : (K == 7) = false := by simp; omega
    have hst2 := HStep.out hk5' rfl
    have f2 := bD2.cell 2
    have hfu := hI.fuse
    by_cases hf1 : d.fuse = 1
    · obtain ⟨u, hRCu⟩ := hst2.1 hf1
      obtain ⟨d', hd'⟩ : ∃ d', d' = ({ d with fuse := 0, down := true, files := if K = 1 then chFil d ⟨K, nm, tg, bs, N, M, keep⟩ else d.files, used := u } : Dk) := ⟨_, rfl⟩
      rw [← hd'] at hRCu
      have HC := Lib.hid hRCu
      rw [hRCu] at hIc
      dsimp only at hIc
      have uf : (d.fuse == 1) = true := by simpa using hf1
      have y2 := bD2.frozen 2
      have HD := Lib.hid hd'
      clear hst2 hRCu hd'
      go_upto_region 20 with fail
      have bD3 := Blk_eq (BlkS (i := 2) (u := .int .i64 0) bD2) (cs' := #[.slice A n c, .int .i64 d.room, .int .i64 0, .bool d.down, .int .i64 d.steps, .int .i64 d.read]) rfl
      have bO3 := BlkF (p := ⟨w.heap.size, 2, none⟩) (u := .int .i64 0) (show w.heap.size + 1 ≠ w.heap.size by omega) bO2
      have bZ3 := BlkF (p := ⟨w.heap.size, 2, none⟩) (u := .int .i64 0) (show w.heap.size + 1 + 1 ≠ w.heap.size by omega) bZ2
      have hX3 : Ext w (World.setCell W2 ⟨w.heap.size, 2, none⟩ (.int .i64 0)) := ExtS (Nat.le_refl _) hX2
      clear bD2 bO2 bZ2 hX2
      generalize World.setCell W2 ⟨w.heap.size, 2, none⟩ (.int .i64 0) = W3 at *
      have bD2 := bD3
      have bO2 := bO3
      have bZ2 := bZ3
      have hX2 := hX3
      clear bD3 bO3 bZ3 hX3
      have y3 := bD2.frozen 3
      have f3 := bD2.cell 3
      clear f2 y2
      go_upto_region 21 with fail
      have bD3 := Blk_eq (BlkS (i := 3) (u := .bool true) bD2) (cs' := #[.slice A n c, .int .i64 d.room, .int .i64 0, .bool true, .int .i64 d.steps, .int .i64 d.read]) rfl
      have bO3 := BlkF (p := ⟨w.heap.size, 3, none⟩) (u := .bool true) (show w.heap.size + 1 ≠ w.heap.size by omega) bO2
      have bZ3 := BlkF (p := ⟨w.heap.size, 3, none⟩) (u := .bool true) (show w.heap.size + 1 + 1 ≠ w.heap.size by omega) bZ2
      have hX3 : Ext w (World.setCell W3 ⟨w.heap.size, 3, none⟩ (.bool true)) := ExtS (Nat.le_refl _) hX2
      clear bD2 bO2 bZ2 hX2
      generalize World.setCell W3 ⟨w.heap.size, 3, none⟩ (.bool true) = W4 at *
      have bD2 := bD3
      have bO2 := bO3
      have bZ2 := bZ3
      have hX2 := hX3
      clear bD3 bO3 bZ3 hX3
      clear y3 f3
      have p1 := bO2.cell 0
      clear p0
      by_cases hk1 : K = 1
      · have t8 : (K == 1) = true := by simpa using hk1
        have hf9 : d'.files = chFil d ⟨K, nm, tg, bs, N, M, keep⟩ := by rw [HD.out]; exact if_pos hk1
        subst hk1
        have KC := Lib.hid fun W hx => KCh.out d' hIc hk5' hf9 HE.out.symm d.room 0 d.steps d.read true W hx
        unfold ChPost at KC
        clear KCh hf9
        go_wp2_with (first
          | (with_reducible refine wpL_load_row rfl 28 (.tmp 2) rfl w.heap.size 28 _ 6 rfl bD2 disk_wide (dk_size _ _ _ _ _ _ _ _) ?_)
          | (with_reducible refine wpL_load_row rfl 44 (.tmp 3) rfl (w.heap.size + 1) 44 _ 7 rfl bO2 op_wide (op_size _ _ _ _ _ _ _ _ _ _ _) ?_)
          | (go_at_call 59; (with_reducible refine (KC.out _ hX2).mono ?_); rintro e W9 ⟨A9, n9, c9, hs9, rfl, hm9, hx9, ho9, hb9⟩; have bZ9 := BlkE bZ2 hx9; have bD9 := BlkE bD2 hx9; have bD10 : Blk (W9.setRow w.heap.size #[.slice A9 n9 c9, .int .i64 d.room, .int .i64 0, .bool true, .int .i64 d.steps, .int .i64 d.read]) w.heap.size 28 _ := Blk.setRow_ bD9; have bZ10 : Blk (W9.setRow w.heap.size #[.slice A9 n9 c9, .int .i64 d.room, .int .i64 0, .bool true, .int .i64 d.steps, .int .i64 d.read]) (w.heap.size + 1 + 1) 28 _ := BlkR (by omega) bZ9)
          | (with_reducible refine wpL_store_row rfl 28 (.tmp 2) (.tmp 95) rfl w.heap.size 28 _ _ rfl rfl bD9 ((dk_size _ _ _ _ _ _ _ _).trans (dk_size _ _ _ _ _ _ _ _).symm) (dk_one _ _ _ _ _ _ _ _) 6 disk_wide (dk_size _ _ _ _ _ _ _ _) ?_)
          | (with_reducible refine wpL_load_row rfl 28 (.tmp 2) rfl w.heap.size 28 _ 6 rfl bD10 disk_wide (dk_size _ _ _ _ _ _ _ _) ?_)
          | (with_reducible refine wpL_store_row rfl 28 (.tmp 4) (.tmp 96) rfl (w.heap.size + 1 + 1) 28 _ _ rfl rfl bZ10 ((dk_size _ _ _ _ _ _ _ _).trans (dk_size _ _ _ _ _ _ _ _).symm) (dk_one _ _ _ _ _ _ _ _) 6 disk_wide (dk_size _ _ _ _ _ _ _ _) ?_))
        (try simp only [Exit.inBlock, Exit.then]); refine bodyPost_ret (v := .tuple #[.agg #[.slice A9 n9 c9, .int .i64 d.room, .int .i64 0, .bool true, .int .i64 d.steps, .int .i64 d.read], (.slice none 0 0), (.int .i64 0), (.int .i64 3)]) (res_row_ttt rfl _ (w.heap.size + 1 + 1) 28 _ 6 _ _ _ rfl rfl rfl rfl ?_ disk_wide rfl) rfl ?_
        · exact Blk.setRow_ bZ10
        · have hXf := ExtR (a := w) (g := w.heap.size + 1 + 1) (ds := #[.slice A9 n9 c9, .int .i64 d.room, .int .i64 0, .bool true, .int .i64 d.steps, .int .i64 d.read]) (by omega) (ExtR (a := w) (g := w.heap.size) (ds := #[.slice A9 n9 c9, .int .i64 d.room, .int .i64 0, .bool true, .int .i64 d.steps, .int .i64 d.read]) (Nat.le_refl _) (hX2.tr hx9))
          have hz0 := hX2.size
          rw [HC.out]
          refine ⟨A9, n9, c9, hs9, none, 0, ?_, hm9, hXf, dofl_row bZ10 (dofl_row bD9 ho9), fun r hr => (hb9 r hr).imp id (fun h => by omega), World.ownsRow_nil _ _ _ _⟩
          dsimp only
          rw [HD.out]
          rfl
      · have t8 : (K == 1) = false := by simpa using hk1
        have hf9 : imgL d' = imgL d := by rw [HD.out, if_neg hk1]; rfl
        have HF9 := Lib.hid hf9
        clear KCh hf9 hk1
        go_wp2_with (first
          | (with_reducible refine wpL_load_row rfl 28 (.tmp 2) rfl w.heap.size 28 _ 6 rfl bD2 disk_wide (dk_size _ _ _ _ _ _ _ _) ?_)
          | (with_reducible refine wpL_store_row rfl 28 (.tmp 4) (.tmp 96) rfl (w.heap.size + 1 + 1) 28 _ _ rfl rfl bZ2 ((dk_size _ _ _ _ _ _ _ _).trans (dk_size _ _ _ _ _ _ _ _).symm) (dk_one _ _ _ _ _ _ _ _) 6 disk_wide (dk_size _ _ _ _ _ _ _ _) ?_))
        (try simp only [Exit.inBlock, Exit.then]); refine bodyPost_ret (v := .tuple #[.agg #[.slice A n c, .int .i64 d.room, .int .i64 0, .bool true, .int .i64 d.steps, .int .i64 d.read], (.slice none 0 0), (.int .i64 0), (.int .i64 3)]) (res_row_ttt rfl _ (w.heap.size + 1 + 1) 28 _ 6 _ _ _ rfl rfl rfl rfl ?_ disk_wide rfl) rfl ?_
        · exact Blk.setRow_ bZ2
        · have hXf := ExtR (a := w) (g := w.heap.size + 1 + 1) (ds := #[.slice A n c, .int .i64 d.room, .int .i64 0, .bool true, .int .i64 d.steps, .int .i64 d.read]) (by omega) hX2
          rw [HC.out]
          refine ⟨A, n, c, hs0, none, 0, ?_, Hm.out.trans HF9.out.symm, hXf, HR.out.ext hXf, fun r hr => .inl hr, World.ownsRow_nil _ _ _ _⟩
          dsimp only
          rw [HD.out]
          rfl
    · obtain ⟨u, hRCu⟩ := hst2.2 hf1
      obtain ⟨d', hd'⟩ : ∃ d', d' = ({ d with fuse := if 1 < d.fuse then d.fuse - 1 else d.fuse, steps := d.steps + 1, files := chFil d ⟨K, nm, tg, bs, N, M, keep⟩, used := u } : Dk) := ⟨_, rfl⟩
      rw [← hd'] at hRCu
      have HC := Lib.hid hRCu
      rw [hRCu] at hIc
      dsimp only at hIc
      have uf : (d.fuse == 1) = false := by simpa using hf1
      have HD := Lib.hid hd'
      have hf9 : d'.files = chFil d ⟨K, nm, tg, bs, N, M, keep⟩ := by rw [hd']
      have hss := hI.steps
      have w1 : IntKind.i64.wrap (d.steps + 1) = d.steps + 1 := by rw [IntKind.wrap_i64]; omega
      have w2 : wrap64 (d.steps + 1) = d.steps + 1 := by unfold wrap64; omega
      have KC := Lib.hid fun F W hx => KCh.out d' hIc hk5' hf9 HE.out.symm d.room F (d.steps + 1) d.read d.down W hx
      unfold ChPost at KC
      clear hst2 hRCu hd' KCh hf9
      by_cases hfg : 1 < d.fuse
      · have t9 : decide (1 < d.fuse) = true := by simpa using hfg
        have w3 : wrap64 (d.fuse - 1) = d.fuse - 1 := by unfold wrap64; omega
        have y2 := bD2.frozen 2
        have HDf : Hid (d'.fuse = d.fuse - 1) := Lib.hid (by rw [HD.out]; exact if_pos hfg)
        clear hf1
        go_upto_region 26 with fail
        have bD3 := Blk_eq (BlkS (i := 2) (u := .int .i64 (d.fuse - 1)) bD2) (cs' := #[.slice A n c, .int .i64 d.room, .int .i64 (d.fuse - 1), .bool d.down, .int .i64 d.steps, .int .i64 d.read]) rfl
        have bO3 := BlkF (p := ⟨w.heap.size, 2, none⟩) (u := .int .i64 (d.fuse - 1)) (show w.heap.size + 1 ≠ w.heap.size by omega) bO2
        have bZ3 := BlkF (p := ⟨w.heap.size, 2, none⟩) (u := .int .i64 (d.fuse - 1)) (show w.heap.size + 1 + 1 ≠ w.heap.size by omega) bZ2
        have hX3 : Ext w (World.setCell W2 ⟨w.heap.size, 2, none⟩ (.int .i64 (d.fuse - 1))) := ExtS (Nat.le_refl _) hX2
        clear bD2 bO2 bZ2 hX2
        generalize World.setCell W2 ⟨w.heap.size, 2, none⟩ (.int .i64 (d.fuse - 1)) = W3 at *
        have bD2 := bD3
        have bO2 := bO3
        have bZ2 := bZ3
        have hX2 := hX3
        clear bD3 bO3 bZ3 hX3
        have y4 := bD2.frozen 4
        have f4 := bD2.cell 4
        clear f2 y2
        go_upto_region 27 with fail
        have bD3 := Blk_eq (BlkS (i := 4) (u := .int .i64 (d.steps + 1)) bD2) (cs' := #[.slice A n c, .int .i64 d.room, .int .i64 (d.fuse - 1), .bool d.down, .int .i64 (d.steps + 1), .int .i64 d.read]) rfl
        have bO3 := BlkF (p := ⟨w.heap.size, 4, none⟩) (u := .int .i64 (d.steps + 1)) (show w.heap.size + 1 ≠ w.heap.size by omega) bO2
        have bZ3 := BlkF (p := ⟨w.heap.size, 4, none⟩) (u := .int .i64 (d.steps + 1)) (show w.heap.size + 1 + 1 ≠ w.heap.size by omega) bZ2
        have hX3 : Ext w (World.setCell W3 ⟨w.heap.size, 4, none⟩ (.int .i64 (d.steps + 1))) := ExtS (Nat.le_refl _) hX2
        clear bD2 bO2 bZ2 hX2
        generalize World.setCell W3 ⟨w.heap.size, 4, none⟩ (.int .i64 (d.steps + 1)) = W4 at *
        have bD2 := bD3
        have bO2 := bO3
        have bZ2 := bZ3
        have hX2 := hX3
        clear bD3 bO3 bZ3 hX3
        clear y4 f4 p0
        go_wp2_with (first
          | (with_reducible refine wpL_load_row rfl 28 (.tmp 2) rfl w.heap.size 28 _ 6 rfl bD2 disk_wide (dk_size _ _ _ _ _ _ _ _) ?_)
          | (with_reducible refine wpL_load_row rfl 44 (.tmp 3) rfl (w.heap.size + 1) 44 _ 7 rfl bO2 op_wide (op_size _ _ _ _ _ _ _ _ _ _ _) ?_)
          | (go_at_call 59; (with_reducible refine (KC.out _ _ hX2).mono ?_); rintro e W9 ⟨A9, n9, c9, hs9, rfl, hm9, hx9, ho9, hb9⟩; have bZ9 := BlkE bZ2 hx9)
          | (with_reducible refine wpL_store_row rfl 28 (.tmp 4) (.tmp 110) rfl (w.heap.size + 1 + 1) 28 _ _ rfl rfl bZ9 ((dk_size _ _ _ _ _ _ _ _).trans (dk_size _ _ _ _ _ _ _ _).symm) (dk_one _ _ _ _ _ _ _ _) 6 disk_wide (dk_size _ _ _ _ _ _ _ _) ?_))
        (try simp only [Exit.inBlock, Exit.then]); refine bodyPost_ret (v := .tuple #[.agg #[.slice A9 n9 c9, .int .i64 d.room, .int .i64 (d.fuse - 1), .bool d.down, .int .i64 (d.steps + 1), .int .i64 d.read], (.slice none 0 0), (.int .i64 0), (.int .i64 0)]) (res_row_ttt rfl _ (w.heap.size + 1 + 1) 28 _ 6 _ _ _ rfl rfl rfl rfl ?_ disk_wide rfl) rfl ?_
        · exact Blk.setRow_ bZ9
        · have hXf := ExtR (a := w) (g := w.heap.size + 1 + 1) (ds := #[.slice A9 n9 c9, .int .i64 d.room, .int .i64 (d.fuse - 1), .bool d.down, .int .i64 (d.steps + 1), .int .i64 d.read]) (by omega) (hX2.tr hx9)
          have hz := bZ2.lt
          have hz0 := hX2.size
          rw [HC.out]
          refine ⟨A9, n9, c9, hs9, none, 0, ?_, hm9, hXf, dofl_row bZ9 ho9, fun r hr => (hb9 r hr).imp id (fun h => by omega), World.ownsRow_nil _ _ _ _⟩
          dsimp only
          (rw [show d'.fuse = d.fuse - 1 from HDf.out, HD.out]; rfl)
      · have t9 : decide (1 < d.fuse) = false := by simpa using hfg
        have y4 := bD2.frozen 4
        have f4 := bD2.cell 4
        have HDf : Hid (d'.fuse = d.fuse) := Lib.hid (by rw [HD.out]; exact if_neg hfg)
        clear hf1
        go_upto_region 27 with fail
        have bD3 := Blk_eq (BlkS (i := 4) (u := .int .i64 (d.steps + 1)) bD2) (cs' := #[.slice A n c, .int .i64 d.room, .int .i64 d.fuse, .bool d.down, .int .i64 (d.steps + 1), .int .i64 d.read]) rfl
        have bO3 := BlkF (p := ⟨w.heap.size, 4, none⟩) (u := .int .i64 (d.steps + 1)) (show w.heap.size + 1 ≠ w.heap.size by omega) bO2
        have bZ3 := BlkF (p := ⟨w.heap.size, 4, none⟩) (u := .int .i64 (d.steps + 1)) (show w.heap.size + 1 + 1 ≠ w.heap.size by omega) bZ2
        have hX3 : Ext w (World.setCell W2 ⟨w.heap.size, 4, none⟩ (.int .i64 (d.steps + 1))) := ExtS (Nat.le_refl _) hX2
        clear bD2 bO2 bZ2 hX2
        generalize World.setCell W2 ⟨w.heap.size, 4, none⟩ (.int .i64 (d.steps + 1)) = W4 at *
        have bD2 := bD3
        have bO2 := bO3
        have bZ2 := bZ3
        have hX2 := hX3
        clear bD3 bO3 bZ3 hX3
        clear y4 f4 p0 f2
        go_wp2_with (first
          | (with_reducible refine wpL_load_row rfl 28 (.tmp 2) rfl w.heap.size 28 _ 6 rfl bD2 disk_wide (dk_size _ _ _ _ _ _ _ _) ?_)
          | (with_reducible refine wpL_load_row rfl 44 (.tmp 3) rfl (w.heap.size + 1) 44 _ 7 rfl bO2 op_wide (op_size _ _ _ _ _ _ _ _ _ _ _) ?_)
          | (go_at_call 59; (with_reducible refine (KC.out _ _ hX2).mono ?_); rintro e W9 ⟨A9, n9, c9, hs9, rfl, hm9, hx9, ho9, hb9⟩; have bZ9 := BlkE bZ2 hx9)
          | (with_reducible refine wpL_store_row rfl 28 (.tmp 4) (.tmp 110) rfl (w.heap.size + 1 + 1) 28 _ _ rfl rfl bZ9 ((dk_size _ _ _ _ _ _ _ _).trans (dk_size _ _ _ _ _ _ _ _).symm) (dk_one _ _ _ _ _ _ _ _) 6 disk_wide (dk_size _ _ _ _ _ _ _ _) ?_))
        (try simp only [Exit.inBlock, Exit.then]); refine bodyPost_ret (v := .tuple #[.agg #[.slice A9 n9 c9, .int .i64 d.room, .int .i64 d.fuse, .bool d.down, .int .i64 (d.steps + 1), .int .i64 d.read], (.slice none 0 0), (.int .i64 0), (.int .i64 0)]) (res_row_ttt rfl _ (w.heap.size + 1 + 1) 28 _ 6 _ _ _ rfl rfl rfl rfl ?_ disk_wide rfl) rfl ?_
        · exact Blk.setRow_ bZ9
        · have hXf := ExtR (a := w) (g := w.heap.size + 1 + 1) (ds := #[.slice A9 n9 c9, .int .i64 d.room, .int .i64 d.fuse, .bool d.down, .int .i64 (d.steps + 1), .int .i64 d.read]) (by omega) (hX2.tr hx9)
          have hz := bZ2.lt
          have hz0 := hX2.size
          rw [HC.out]
          refine ⟨A9, n9, c9, hs9, none, 0, ?_, hm9, hXf, dofl_row bZ9 ho9, fun r hr => (hb9 r hr).imp id (fun h => by omega), World.ownsRow_nil _ _ _ _⟩
          dsimp only
          (rw [show d'.fuse = d.fuse from HDf.out, HD.out]; rfl)
end Go.Proofs.YtjajbbgebblalaaGreatDoor

namespace Go.Proofs.YtjajbbgebblalaaGreatDoor
open Go.RowKit
set_option linter.unusedVariables false
set_option linter.unusedSimpArgs false
theorem do_any {d : Dk} (hI : DkInv d) (o : HO) (A : Option Addr) (n c B0 : Nat) (hs0 : List HV) (hmap : hs0.map (·.1) = imgL d) (w : World) (hr : OwnFl w B0 A n c hs0) (hB : B0 ≤ w.heap.size) (hst : d.steps ≤ 4611686018427387904) (ho : OpOk w o) :
    Calls Tryz.prog 15 #[.agg #[.slice A n c, .int .i64 d.room, .int .i64 d.fuse, .bool d.down, .int .i64 d.steps, .int .i64 d.read], .agg (opcells o)] w (DoPost w B0 A hs0 (callD d o.1)) := by
  obtain ⟨⟨hb1, hb2⟩, ⟨hk1, hk2, hk3⟩, _, hn, hm⟩ := ho
  by_cases hk : 0 ≤ o.1.k ∧ o.1.k ≤ 7
  · exact do_mid hI o.1 hk A n c B0 hs0 hmap o.2.1.1 o.2.1.2 o.2.2.1 o.1.keep.length o.2.2.2 w hr hB hn hm hst hb1 (by omega)
  · exact do_low hI o.1 (by omega) A n c B0 hs0 hmap o.2.1.1 o.2.1.2 o.2.2.1 o.2.2.2 w hr hB hn hk1 hk2 hk3
end Go.Proofs.YtjajbbgebblalaaGreatDoor

namespace Go.Proofs.YtjajbbgebblalaaGreatDoor
open Go.RowKit
set_option linter.unusedVariables false
set_option linter.unusedSimpArgs false
def TldR (W : World) (n : Nat) (c59 : Value) (wr : World) : Prop := ∃ k : Nat, c59 = .int .i64 k ∧ k ≤ n ∧ Ext W wr
end Go.Proofs.YtjajbbgebblalaaGreatDoor
