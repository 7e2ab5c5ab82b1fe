/-
  book.number: a body that is one number.
-/
/-
  The walk of book.Decode.
-/
import Derived.Test.YtjajbbgebblalaaGreatDoorShrT
import Derived.Test.YtjajbbgebblalaaGreatDoorBkA
import Derived.Test.YtjajbbgebblalaaGreatDoorCrcP
import Derived.Test.YtjajbbgebblalaaGreatDoorFrmD
import Derived.Test.YtjajbbgebblalaaGreatDoorVarW
import Derived.Test.YtjajbbgebblalaaGreatDoorScnA
import Derived.Test.YtjajbbgebblalaaGreatDoorCanD
import Derived.Test.YtjajbbgebblalaaGreatDoorHand
namespace Go.Proofs.YtjajbbgebblalaaGreatDoor
open Go.RowKit
set_option linter.unusedVariables false
set_option linter.unusedSimpArgs false
set_option maxRecDepth 100000 in
set_option maxHeartbeats 4000000 in
theorem numb_any (kd sq : Nat) (A : Option Addr) (n c : Nat) (l : List UInt8) (w : World) (hr : Rd w A n (u8s l)) (hn : n ≤ maxLen) :
    Calls Tryz.prog 87 #[.agg #[.int .i64 (kd : Nat), .int .i64 (sq : Nat), .slice A n c]] w fun e w' => e = .returned (.tuple #[.int .u64 ((numB l).1 : Nat), .bool (numB l).2]) ∧ Ext w w' := by
  have hlen : l.length = n := by have := hr.1; rw [u8s_len] at this; exact this
  have KV := Lib.hid fun W (h : Ext w W) => vdec_any A n c l W (hr.ext h) hn
  obtain ⟨⟨v, k, E⟩, hv⟩ : ∃ x, x = vdec l := ⟨_, rfl⟩
  rw [← hv] at KV
  unfold DecT at KV
  dsimp only at KV
  have HE : Hid (numB l = (v, decide (E = 0 ∧ k = n))) := Lib.hid (by unfold numB; rw [← hv, hlen])
  clear hv hlen
  rw [HE.out]
  dsimp only
  have x2 : ((E : Int) == 0) = decide (E = 0) := by rw [Bool.eq_iff_iff]; simp
  have x3 : ((k : Int) == (n : Int)) = decide (k = n) := by rw [Bool.eq_iff_iff]; simp; omega
  by_cases h1 : E = 0
  · rw [decide_eq_true h1] at x2
    have HR : Hid (decide (E = 0 ∧ k = n) = decide (k = n)) := Lib.hid (by simp [h1])
    generalize decide (k = n) = q at *
    rw [HR.out]
    clear h1 HR HE
    go_enter Tryz.func87, Tryz.ntmps87
    go_wp2_with (go_at_call 131; (with_reducible refine (KV.out _ exA).mono ?_); rintro e w1 ⟨rfl, rfl⟩)
    go_quiet (fail)
    go_wp2_with fail
    go_ret2
    exact ⟨rfl, exA⟩
  · rw [decide_eq_false h1] at x2
    have HR : Hid (decide (E = 0 ∧ k = n) = false) := Lib.hid (by simp [h1])
    rw [HR.out]
    clear h1 HR HE
    go_enter Tryz.func87, Tryz.ntmps87
    go_wp2_with (go_at_call 131; (with_reducible refine (KV.out _ exA).mono ?_); rintro e w1 ⟨rfl, rfl⟩)
    go_quiet (fail)
    go_wp2_with fail
    go_ret2
    exact ⟨rfl, exA⟩
end Go.Proofs.YtjajbbgebblalaaGreatDoor

namespace Go.Proofs.YtjajbbgebblalaaGreatDoor
open Go.RowKit
set_option linter.unusedVariables false
set_option linter.unusedSimpArgs false
def BdPost (w : World) (r : Nat × Nat × List St × Nat) (e : Ending) (w' : World) : Prop :=
  ∃ A c hs, e = .returned (.tuple #[.int .i64 (r.1 : Nat), .int .i64 (r.2.1 : Nat), .slice A r.2.2.1.length c, .int .i64 (r.2.2.2 : Nat)]) ∧ hs.map (·.1) = r.2.2.1 ∧ Ext w w' ∧ OwnSs w' w.heap.size A r.2.2.1.length c hs
theorem bd_bad {w w' : World} {r : Nat × Nat × List St × Nat} {e : Ending} (h : r = bkBad) (he : e = .returned (.tuple #[.int .i64 0, .int .i64 0, .slice none 0 0, .int .i64 81])) (hx : Ext w w') : BdPost w r e w' := by
  subst h
  exact ⟨none, 0, [], he, rfl, hx, OwnSs.nil_ _ _⟩
theorem own_leS {w : World} {base s n c : Nat} {e : TypeId} {A : Option Addr} {xs : List Value} (h : w.ownsRow base e s (.slice A n c) n xs) : n ≤ c := by
  rcases h.2 with ⟨h1, h2⟩ | ⟨g, cap, cur, h1, _, _, h2, _⟩
  · omega
  · injection h1 with _ _ h3
    omega
theorem pl_frm (b : List UInt8) : (plL b).map (·.2.2) = (scn b).1 := by
  unfold plL
  have h := plcs_frm b _ (Nat.le_refl _)
  rw [List.take_length] at h
  rw [List.map_map]
  exact h
/-- The frames at a place of the list. -/
theorem pl_fm {w : World} {base c : Nat} {A : Option Addr} {n k : Nat} {b : List UInt8} {hs : List HPl} (hm : hs.map (·.1) = plL b) (h : OwnPl w base A n c hs) (hk : k < n) :
    ∃ g o A2 c2 x, (scn b).1[k]? = some x.2.2 ∧ A = some ⟨g, o, none⟩ ∧ w.rangeAt g (o + k * 5) (plcells x A2 c2).toList ∧ Rd w A2 x.2.2.2.2.length (u8s x.2.2.2.2) ∧ x.2.2.2.2.length ≤ c2 := by
  obtain ⟨g, o, x, h1, h2, h3⟩ := pl_range (RdN.of_own h.1) hk
  have h4 := h.2 x (List.mem_of_getElem? h1)
  exact ⟨g, o, x.2.1, x.2.2, x.1, by rw [← pl_frm, ← hm, List.getElem?_map, List.getElem?_map, h1]; rfl, h2, h3, rd_own h4, own_leS h4⟩
theorem range_fm {w : World} {g o : Nat} {x : Nat × Nat × Frm} {A : Option Addr} {c : Nat} (h : w.rangeAt g o (plcells x A c).toList) : w.rangeAt g (o + 2) (fmcells x.2.2 A c).toList := fun j v hv => by
  rw [Nat.add_assoc]
  exact h (2 + j) v (by rw [Nat.add_comm]; exact hv)
theorem slice_pl (b o n c : Nat) (hn : 2 ≤ n) (hc : n ≤ c) (W : World) : (Instr.slice 148 (.slice (some ⟨b, o, none⟩) n c) (some (.int .i64 1)) (some (.int .i64 ((n - 1 : Nat) : Int))) none).run Tryz.prog W = .ok (.slice (some ⟨b, o + 5, none⟩) (n - 2) (c - 1)) W := by
  rw [run_slice_lh W 148 (some ⟨b, o, none⟩) n c (by kernel_rfl : Tryz.prog.underlying 148 = some (.slice (Tryz.prog.elem 148))) .i64 .i64 1 ((n - 1 : Nat) : Int) (by omega) (by omega) (by omega), (by kernel_rfl : (sizeOf (Tryz.prog.elem 148)).run Tryz.prog W = .ok 5 W), Result.andThen_ok]
  have e1 : n - 1 - 1 = n - 2 := by omega
  have h4 : ¬ c = 1 := by omega
  simp [sliced, h4, Addr.add, e1]
/-- A frame that ends the reading. -/
abbrev sBad (f : Frm) : Prop := (canD f.2.2).2 ≠ 0 ∨ f.1 ≠ 5 ∨ (f.2.1 : Int) ≠ (canD f.2.2).1.order
theorem sts_bad {l : List Frm} {f : Frm} (h : f ∈ l) (hb : sBad f) : stsOf l = none := by
  induction l with
  | nil => cases h
  | cons x r ih =>
    unfold stsOf
    rcases List.mem_cons.1 h with rfl | h
    · rw [if_pos hb]
    · split
      · rfl
      · rw [ih h]; rfl
theorem sts_snoc {l : List Frm} {f : Frm} {ss : List St} (h : stsOf l = some ss) (hb : ¬ sBad f) : stsOf (l ++ [f]) = some (ss ++ [(canD f.2.2).1]) := by
  induction l generalizing ss with
  | nil =>
    injection h with h
    subst h
    show (if sBad f then none else _) = _
    rw [if_neg hb]
    rfl
  | cons x r ih =>
    unfold stsOf at h
    rw [List.cons_append]
    unfold stsOf
    split at h
    · cases h
    · rename_i h1
      rw [if_neg h1]
      obtain ⟨s2, h2, rfl⟩ := Option.map_eq_some_iff.1 h
      rw [ih h2]
      rfl
def BdR (w3 : World) (mid : List Frm) (Q : Nat) (c16 c109 : Value) (wr : World) : Prop :=
  ∃ (k : Nat) (B : Option Addr) (d : Nat) (hs : List HSt), c109 = .int .i64 (k : Nat) ∧ k ≤ Q ∧ c16 = .slice B k d ∧ stsOf (mid.take k) = some (hs.map (·.1)) ∧ Ext w3 wr ∧ OwnSs wr w3.heap.size B k d hs
theorem fm_one3 (a b : Nat) (A : Option Addr) (n c : Nat) : ∀ v ∈ (#[.int .i64 (a : Nat), .int .i64 (b : Nat), .slice A n c] : Array Value).toList, v.oneCell' = true := fun v hv => by
  simp only [List.mem_cons, List.not_mem_nil, or_false] at hv
  rcases hv with rfl | rfl | rfl <;> rfl
theorem alloc_fm3 (w : World) : (Instr.alloc 119 true (.tuple #[])).run Tryz.prog w = .ok (.pointer (some ⟨w.heap.size, 0, none⟩)) (w.alloc (.cells #[.int .i64 0, .int .i64 0, .slice none 0 0] 119)) := by kernel_rfl
set_option maxRecDepth 100000 in
set_option maxHeartbeats 8000000 in
theorem bdec_any (A : Option Addr) (n c : Nat) (b : List UInt8) (w : World) (hN : Nib w) (hr : Rd w A n (u8s b)) (hnc : n ≤ c) (hn : n ≤ 1099511627776) :
    Calls Tryz.prog 33 #[.slice A n c] w (BdPost w (bkD b)) := by
  have hlen : b.length = n := by have := hr.1; rw [u8s_len] at this; exact this
  have KS := Lib.hid (scanall_any A n c b w hN hr hnc hn)
  have hns : 20 * (scn b).1.length ≤ n := by have h1 := scn_good b; omega
  obtain ⟨E, hE⟩ : ∃ E, E = (scn b).2.2 := ⟨_, rfl⟩
  obtain ⟨N, hNn⟩ : ∃ N, N = (scn b).1.length := ⟨_, rfl⟩
  unfold ScPost at KS
  rw [← hE, ← hNn] at KS
  rw [← hNn] at hns
  by_cases h0 : E = 0
  · subst h0
    by_cases h2 : N < 2
    · have HB := Lib.hid (show bkD b = bkBad by unfold bkD; rw [if_pos (.inr (by omega))])
      have d2 : decide ((N : Int) < 2) = true := by simp; omega
      clear hE hNn h2 hr hns
      go_enter Tryz.func33, Tryz.ntmps33
      go_wp2_with (go_at_call 86; (with_reducible refine KS.out.mono ?_); rintro e w1 ⟨A1, c1, hs, rfl, hm, hx1, ho1⟩)
      ((try simp only [Exit.inBlock, Exit.then]); refine bodyPost_ret (results_tmp4 rfl _ _ _) rfl ?_)
      exact bd_bad HB.out rfl hx1
    · obtain ⟨M, hM⟩ : ∃ M, M = N - 1 := ⟨_, rfl⟩
      have d2 : decide ((N : Int) < 2) = false := by simp; omega
      obtain ⟨f0, f1, hfs, hh, hl⟩ := bk_list (scn b).1 (by omega)
      have h0f : (scn b).1[0]? = some f0 := by rw [← List.head?_eq_getElem?]; exact hh
      have hMf : (scn b).1[M]? = some f1 := by rw [List.getLast?_eq_getElem?] at hl; rw [show M = (scn b).1.length - 1 by omega]; exact hl
      have hk0 := (scn_ok b f0 (List.mem_of_getElem? h0f)).2.2.2
      have hk1 := (scn_ok b f1 (List.mem_of_getElem? hMf)).2.2.2
      have hlm : ((scn b).1.drop 1).dropLast.length = N - 2 := by rw [List.length_dropLast, List.length_drop]; omega
      have HMid := Lib.hid fun k (hk : k < N - 2) => (show ((scn b).1.drop 1).dropLast[k]? = (scn b).1[k + 1]? by
        rw [List.getElem?_dropLast, List.length_drop, if_pos (by omega), List.getElem?_drop, Nat.add_comm])
      have HBk := Lib.hid (show bkD b = if bkHd (scn b).1 = false then bkBad else match stsOf ((scn b).1.drop 1).dropLast with
          | none => bkBad
          | some ss => if bookB 0 ss = true then (((scn b).1.headD (0, 0, [])).2.1, (numB ((scn b).1.headD (0, 0, [])).2.2).1, ss, 0) else bkBad by
        unfold bkD
        rw [if_neg (by omega)]
        rfl)
      have HHd : Hid (bkHd (scn b).1 = ((numB f0.2.2).2 && (numB f1.2.2).2 && decide (f0.1 = 6) && decide (f1.1 = 7) && decide (f1.2.1 = f0.2.1) && decide (1 ≤ f0.2.1) && decide (f0.2.1 ≤ 999999) && decide (1 ≤ (numB f0.2.2).1) && decide ((numB f0.2.2).1 ≤ 1099511627776) && decide ((numB f1.2.2).1 = N - 2))) := Lib.hid (by
        unfold bkHd
        rw [hh, hl, hNn])
      have HH : Hid ((scn b).1.headD (0, 0, []) = f0) := Lib.hid (by rw [List.headD_eq_head?_getD, hh]; rfl)
      have HR := Lib.hid hr
      have Hlm := Lib.hid hlm
      clear hh hl hfs hNn hE hlm hlen hr
      go_enter Tryz.func33, Tryz.ntmps33
      go_upto_region 4 with (go_at_call 86; (with_reducible refine KS.out.mono ?_); rintro e w1 ⟨A1, c1, hs, rfl, hm, hx1, ho1⟩)
      have HP := Lib.hid ho1
      have Hm := Lib.hid hm
      have hNc : N ≤ c1 := own_leS ho1.1
      obtain ⟨g, o, A2, c2, x, hx, rfl, hc0, hrd0, -⟩ := pl_fm Hm.out HP.out (show 0 < N by omega)
      obtain ⟨g', o', A3, c3, y, hy, hAe, hc1, hrd1, -⟩ := pl_fm Hm.out HP.out (show M < N by omega)
      injection hAe with hAe
      injection hAe with e1 e2
      subst e1 e2
      replace hc0 := range_fm hc0
      replace hc1 := range_fm hc1
      rw [h0f] at hx
      rw [hMf] at hy
      injection hx with hx
      injection hy with hy
      rw [← hx] at hc0 hrd0
      rw [← hy] at hc1 hrd1
      clear hx hy x y KS hm ho1 h0f hMf
      obtain ⟨k0, s0, body0⟩ := f0
      obtain ⟨k1, s1, body1⟩ := f1
      dsimp only at HHd
      obtain ⟨l0, hl0⟩ : ∃ l, l = body0.length := ⟨_, rfl⟩
      obtain ⟨l1, hl1⟩ : ∃ l, l = body1.length := ⟨_, rfl⟩
      unfold fmcells at hc0 hc1
      dsimp only at hc0 hc1 hrd0 hrd1
      rw [← hl0] at hc0 hrd0
      rw [← hl1] at hc1 hrd1
      have hb0 : l0 ≤ maxLen := by simp only [maxLen]; dsimp only at hk0; omega
      have hb1 : l1 ≤ maxLen := by simp only [maxLen]; dsimp only at hk1; omega
      have KN0 := Lib.hid fun W (h : Ext w1 W) => numb_any k0 s0 A2 l0 c2 body0 W (hrd0.ext h) hb0
      have KN1 := Lib.hid fun W (h : Ext w1 W) => numb_any k1 s1 A3 l1 c3 body1 W (hrd1.ext h) hb1
      obtain ⟨⟨u0, ok0⟩, hu0⟩ : ∃ x, x = numB body0 := ⟨_, rfl⟩
      obtain ⟨⟨u1, ok1⟩, hu1⟩ : ∃ x, x = numB body1 := ⟨_, rfl⟩
      rw [← hu0] at KN0 HHd
      rw [← hu1] at KN1 HHd
      dsimp only at KN0 KN1 HHd
      have Hu0 := Lib.hid hu0
      have Hc0 : Hid (w1.rangeAt g (o + 2) (#[.int .i64 (k0 : Nat), .int .i64 (s0 : Nat), .slice A2 l0 c2] : Array Value).toList) := Lib.hid (by have h := hc0; rwa [Nat.zero_mul, Nat.add_zero] at h)
      have Hc1 := Lib.hid hc1
      have HX1 := Lib.hid hx1
      have eM : Hid (IntKind.i64.wrap ((N : Int) - 1) = ((M : Nat) : Int)) := Lib.hid (by rw [IntKind.wrap_i64]; omega)
      have hN0 : (0 : Int) < (N : Int) := by omega
      have hN0n : 0 < N := by omega
      have hN0z : N ≠ 0 := by omega
      have hMN : M < N := by omega
      have hM1 : (M : Int) < (N : Int) := by omega
      have HMe := Lib.hid hM
      clear hk0 hk1 hl0 hl1 hu0 hu1 hc0 hc1 hrd0 hrd1 hb0 hb1 hx1 hM d2
      go_cut [9, 10] (fun v9 v10 wc => ∃ g9 g10, v9 = .pointer (some ⟨g9, 0, none⟩) ∧ v10 = .pointer (some ⟨g10, 0, none⟩) ∧ Ext w1 wc ∧ Blk wc g9 119 #[.int .i64 (k0 : Nat), .int .i64 (s0 : Nat), .slice A2 l0 c2] ∧ Blk wc g10 119 #[.int .i64 (k1 : Nat), .int .i64 (s1 : Nat), .slice A3 l1 c3])
      case first =>
        clear KN0 KN1 HHd HBk HMid HH HR Hlm Hu0 hN
        -- REGION4
        refine wp_region_held_drew (S := fun w' => Ext w1 w') (by kernel_rfl) (ExtD (Ext.rfl' _)) (fun hS => ?_)
        refine takeQ 34 0 (.slice (some ⟨g, o, none⟩) N c1) hS ?_
        refine takeQ 35 1 (.pointer (some ⟨g, o, none⟩)) hS ?_
        refine takeQ 36 2 (.pointer (some ⟨g, o + 2, none⟩)) hS ?_
        refine takeD (some 37) (i := 3) (oi := ⟨some 37, _, _, _, _, _⟩) (v := .agg #[.int .i64 (k0 : Nat), .int .i64 (s0 : Nat), .slice A2 l0 c2]) rfl rfl (by kernel_rfl) (by kernel_rfl) (by kernel_rfl) (fun _ _ _ h => h) (yields_fm (by kernel_rfl) (.tmp 36) rfl g (o + 2) rfl #[.int .i64 (k0 : Nat), .int .i64 (s0 : Nat), .slice A2 l0 c2] rfl (fun w' hw => range_ext Hc0.out hw)) hS ?_; (try simp only [Act.put, List.setIfInBounds_toArray, List.set_cons_zero, List.set_cons_succ])
        refine takeQ 38 4 (.slice (some ⟨g, o, none⟩) N c1) hS ?_
        refine takeQ 39 5 (.slice (some ⟨g, o, none⟩) N c1) hS ?_
        refine takeQ 40 6 (.int .i64 (N : Nat)) hS ?_
        refine takeD (some 41) (i := 7) (oi := ⟨some 41, _, _, _, _, _⟩) (v := .int .i64 (M : Nat)) rfl rfl (by kernel_rfl) (by kernel_rfl) (by kernel_rfl) (fun _ _ _ h => h) (Or.inl ⟨by kernel_rfl, fun w' hw => by go_simp; exact eM.out⟩) hS ?_; (try simp only [Act.put, List.setIfInBounds_toArray, List.set_cons_zero, List.set_cons_succ])
        refine takeQ 42 8 (.pointer (some ⟨g, o + M * 5, none⟩)) hS ?_
        refine takeQ 43 9 (.pointer (some ⟨g, o + M * 5 + 2, none⟩)) hS ?_
        refine takeD (some 44) (i := 10) (oi := ⟨some 44, _, _, _, _, _⟩) (v := .agg #[.int .i64 (k1 : Nat), .int .i64 (s1 : Nat), .slice A3 l1 c3]) rfl rfl (by kernel_rfl) (by kernel_rfl) (by kernel_rfl) (fun _ _ _ h => h) (yields_fm (by kernel_rfl) (.tmp 43) rfl g (o + M * 5 + 2) rfl #[.int .i64 (k1 : Nat), .int .i64 (s1 : Nat), .slice A3 l1 c3] rfl (fun w' hw => range_ext Hc1.out hw)) hS ?_; (try simp only [Act.put, List.setIfInBounds_toArray, List.set_cons_zero, List.set_cons_succ])
        refine wpAnyH_ready (rs := [11, 12]) (by kernel_rfl) (by simp) (AllReadyH.cons (o := ⟨some 9, _, _, _, _, _⟩) rfl (fun K hK => ?_) (AllReadyH.cons (o := ⟨some 10, _, _, _, _, _⟩) rfl (fun K hK => ?_) (AllReadyH.nil)))
        · refine step_alloc rfl (some 9) rfl 119 rfl _ alloc_fm3 ?_; intro g9 w5 hg9 hxg9 b9; have n9 := Nat.le_trans (Below.size hS) hg9; refine hK.out _ _ (Ext.tr hS hxg9) ?_; intro hS; (try simp only [Act.put, List.setIfInBounds_toArray, List.set_cons_zero, List.set_cons_succ])
          refine wpAnyH_ready (rs := [12]) (by kernel_rfl) (by simp) (AllReadyH.cons (o := ⟨some 10, _, _, _, _, _⟩) rfl (fun K hK => ?_) (AllReadyH.nil))
          refine step_alloc rfl (some 10) rfl 119 rfl _ alloc_fm3 ?_; intro g10 w6 hg10 hxg10 b10; have n10 := Nat.le_trans (Below.size hS) hg10; refine hK.out _ _ (Ext.tr hS hxg10) ?_; intro hS; (try simp only [Act.put, List.setIfInBounds_toArray, List.set_cons_zero, List.set_cons_succ])
          have b9' := BlkE b9 hxg10; have hne : g10 ≠ g9 := by have := b9.lt; have := hg10; omega
          refine wpAnyH_ready (rs := [13]) (by kernel_rfl) (by simp) (AllReadyH.cons (o := ⟨none, _, _, _, _, _⟩) rfl (fun K hK => ?_) (AllReadyH.nil))
          refine step_store rfl none rfl 119 (.tmp 9) (.tmp 37) rfl g9 119 #[.int .i64 0, .int .i64 0, .slice none 0 0] #[.int .i64 (k0 : Nat), .int .i64 (s0 : Nat), .slice A2 l0 c2] rfl rfl b9' rfl (fm_one3 _ _ _ _ _) 3 fm_wide rfl ?_; intro w7 q9 hkeep hext; have z10 := hkeep _ _ _ hne b10; refine hK.out _ _ (hext _ n9 hS) ?_; intro hS; clear hkeep hext hK; (try simp only [Act.put, List.setIfInBounds_toArray, List.set_cons_zero, List.set_cons_succ])
          refine wpAnyH_ready (rs := [14]) (by kernel_rfl) (by simp) (AllReadyH.cons (o := ⟨none, _, _, _, _, _⟩) rfl (fun K hK => ?_) (AllReadyH.nil))
          refine step_store rfl none rfl 119 (.tmp 10) (.tmp 44) rfl g10 119 #[.int .i64 0, .int .i64 0, .slice none 0 0] #[.int .i64 (k1 : Nat), .int .i64 (s1 : Nat), .slice A3 l1 c3] rfl rfl z10 rfl (fm_one3 _ _ _ _ _) 3 fm_wide rfl ?_; intro w8 q10 hkeep hext; have y9 := hkeep _ _ _ (Ne.symm hne) q9; refine hK.out _ _ (hext _ n10 hS) ?_; intro hS; clear hkeep hext hK; (try simp only [Act.put, List.setIfInBounds_toArray, List.set_cons_zero, List.set_cons_succ])
          refine wpAnyH_done (by kernel_rfl) ?_ _
          go_wp2_with fail
          go_meet
          case rel => exact ⟨g9, g10, rfl, rfl, hS, y9, q10⟩
        · refine step_alloc rfl (some 10) rfl 119 rfl _ alloc_fm3 ?_; intro g10 w5 hg10 hxg10 b10; have n10 := Nat.le_trans (Below.size hS) hg10; refine hK.out _ _ (Ext.tr hS hxg10) ?_; intro hS; (try simp only [Act.put, List.setIfInBounds_toArray, List.set_cons_zero, List.set_cons_succ])
          refine wpAnyH_ready (rs := [11]) (by kernel_rfl) (by simp) (AllReadyH.cons (o := ⟨some 9, _, _, _, _, _⟩) rfl (fun K hK => ?_) (AllReadyH.nil))
          refine step_alloc rfl (some 9) rfl 119 rfl _ alloc_fm3 ?_; intro g9 w6 hg9 hxg9 b9; have n9 := Nat.le_trans (Below.size hS) hg9; refine hK.out _ _ (Ext.tr hS hxg9) ?_; intro hS; (try simp only [Act.put, List.setIfInBounds_toArray, List.set_cons_zero, List.set_cons_succ])
          have b10' := BlkE b10 hxg9; have hne : g9 ≠ g10 := by have := b10.lt; have := hg9; omega
          refine wpAnyH_ready (rs := [13]) (by kernel_rfl) (by simp) (AllReadyH.cons (o := ⟨none, _, _, _, _, _⟩) rfl (fun K hK => ?_) (AllReadyH.nil))
          refine step_store rfl none rfl 119 (.tmp 9) (.tmp 37) rfl g9 119 #[.int .i64 0, .int .i64 0, .slice none 0 0] #[.int .i64 (k0 : Nat), .int .i64 (s0 : Nat), .slice A2 l0 c2] rfl rfl b9 rfl (fm_one3 _ _ _ _ _) 3 fm_wide rfl ?_; intro w7 q9 hkeep hext; have z10 := hkeep _ _ _ (Ne.symm hne) b10'; refine hK.out _ _ (hext _ n9 hS) ?_; intro hS; clear hkeep hext hK; (try simp only [Act.put, List.setIfInBounds_toArray, List.set_cons_zero, List.set_cons_succ])
          refine wpAnyH_ready (rs := [14]) (by kernel_rfl) (by simp) (AllReadyH.cons (o := ⟨none, _, _, _, _, _⟩) rfl (fun K hK => ?_) (AllReadyH.nil))
          refine step_store rfl none rfl 119 (.tmp 10) (.tmp 44) rfl g10 119 #[.int .i64 0, .int .i64 0, .slice none 0 0] #[.int .i64 (k1 : Nat), .int .i64 (s1 : Nat), .slice A3 l1 c3] rfl rfl z10 rfl (fm_one3 _ _ _ _ _) 3 fm_wide rfl ?_; intro w8 q10 hkeep hext; have y9 := hkeep _ _ _ hne q9; refine hK.out _ _ (hext _ n10 hS) ?_; intro hS; clear hkeep hext hK; (try simp only [Act.put, List.setIfInBounds_toArray, List.set_cons_zero, List.set_cons_succ])
          refine wpAnyH_done (by kernel_rfl) ?_ _
          go_wp2_with fail
          go_meet
          case rel => exact ⟨g9, g10, rfl, rfl, hS, y9, q10⟩
        -- END4
      case rest =>
        obtain ⟨g9, g10, rfl, rfl, hxc, b9, b10⟩ := hcut
        have z90 := b9.cell 0; have z91 := b9.cell 1; have z92 := b9.cell 2
        obtain ⟨Q, hQ⟩ : ∃ Q, Q = N - 2 := ⟨_, rfl⟩
        have eQ : IntKind.i64.wrap ((N : Int) - 2) = ((Q : Nat) : Int) := by rw [IntKind.wrap_i64]; omega
        have eQ2 : IntKind.u64.wrap (Q : Int) = (Q : Int) := by rw [IntKind.wrap_u64]; omega
        have eM2 := eM.out
        have HQ := Lib.hid hQ
        rw [← hQ] at HHd HMid Hlm
        clear hQ
        go_upto_region 6 with (go_at_call 87; (with_reducible refine (KN0.out _ hxc).mono ?_); rintro e w2 ⟨rfl, hx2⟩; have c9 := BlkE b9 hx2; have c10 := BlkE b10 hx2; have y0 := c10.cell 0; have y1 := c10.cell 1; have y2 := c10.cell 2)
        go_upto_region 8 with (go_at_call 87; (with_reducible refine (KN1.out _ (hxc.tr hx2)).mono ?_); rintro e w3 ⟨rfl, hx3⟩; have d9 := BlkE c9 hx3; have d10 := BlkE c10 hx3; have v90 := d9.cell 0; have v91 := d9.cell 1; have v10 := d10.cell 0; have v11 := d10.cell 1)
        have HX3 : Hid (Ext w w3) := Lib.hid (HX1.out.tr (hxc.tr (hx2.tr hx3)))
        have HX13 : Hid (Ext w1 w3) := Lib.hid (hxc.tr (hx2.tr hx3))
        have HBad : Hid (bkHd (scn b).1 = false → bkD b = bkBad) := Lib.hid fun h => by rw [HBk.out, if_pos h]
        clear KN0 KN1 z90 z91 z92 y0 y1 y2 b9 b10 c9 c10 d9 d10 hxc hx2 hx3
        by_cases t : ok0 = true
        rotate_left
        · have HB := Lib.hid (HBad.out (by rw [HHd.out]; simp at t; simp [t]))
          rw [Bool.not_eq_true] at t
          subst t
          clear HBad HHd HBk
          go_wp2_with fail
          ((try simp only [Exit.inBlock, Exit.then]); refine bodyPost_ret (results_tmp4 rfl _ _ _) rfl ?_)
          exact bd_bad HB.out rfl HX3.out
        subst t
        by_cases t : ok1 = true
        rotate_left
        · have HB := Lib.hid (HBad.out (by rw [HHd.out]; simp at t; simp [t]))
          rw [Bool.not_eq_true] at t
          subst t
          clear HBad HHd HBk
          go_wp2_with fail
          ((try simp only [Exit.inBlock, Exit.then]); refine bodyPost_ret (results_tmp4 rfl _ _ _) rfl ?_)
          exact bd_bad HB.out rfl HX3.out
        subst t
        by_cases t : k0 = 6
        rotate_left
        · have HB := Lib.hid (HBad.out (by rw [HHd.out]; simp [t]))
          have x2 : ((k0 : Int) != 6) = true := by simp; omega
          clear t; clear HBad HHd HBk
          go_wp2_with fail
          ((try simp only [Exit.inBlock, Exit.then]); refine bodyPost_ret (results_tmp4 rfl _ _ _) rfl ?_)
          exact bd_bad HB.out rfl HX3.out
        have x2 : ((k0 : Int) != 6) = false := by simp; omega
        have T2 := Lib.hid t
        clear t
        by_cases t : k1 = 7
        rotate_left
        · have HB := Lib.hid (HBad.out (by rw [HHd.out]; simp [t]))
          have x3 : ((k1 : Int) != 7) = true := by simp; omega
          clear t; clear HBad HHd HBk
          go_wp2_with fail
          ((try simp only [Exit.inBlock, Exit.then]); refine bodyPost_ret (results_tmp4 rfl _ _ _) rfl ?_)
          exact bd_bad HB.out rfl HX3.out
        have x3 : ((k1 : Int) != 7) = false := by simp; omega
        have T3 := Lib.hid t
        clear t
        by_cases t : s1 = s0
        rotate_left
        · have HB := Lib.hid (HBad.out (by rw [HHd.out]; simp [t]))
          have x4 : ((s1 : Int) != (s0 : Int)) = true := by simp; omega
          clear t; clear HBad HHd HBk
          go_wp2_with fail
          ((try simp only [Exit.inBlock, Exit.then]); refine bodyPost_ret (results_tmp4 rfl _ _ _) rfl ?_)
          exact bd_bad HB.out rfl HX3.out
        have x4 : ((s1 : Int) != (s0 : Int)) = false := by simp; omega
        have T4 := Lib.hid t
        clear t
        by_cases t : 1 ≤ s0
        rotate_left
        · have HB := Lib.hid (HBad.out (by rw [HHd.out]; simp [t]))
          have x5 : decide ((s0 : Int) < 1) = true := by simp; omega
          clear t; clear HBad HHd HBk
          go_wp2_with fail
          ((try simp only [Exit.inBlock, Exit.then]); refine bodyPost_ret (results_tmp4 rfl _ _ _) rfl ?_)
          exact bd_bad HB.out rfl HX3.out
        have x5 : decide ((s0 : Int) < 1) = false := by simp; omega
        have T5 := Lib.hid t
        clear t
        by_cases t : s0 ≤ 999999
        rotate_left
        · have HB := Lib.hid (HBad.out (by rw [HHd.out]; simp [t]))
          have x6 : decide (999999 < (s0 : Int)) = true := by simp; omega
          clear t; clear HBad HHd HBk
          go_wp2_with fail
          ((try simp only [Exit.inBlock, Exit.then]); refine bodyPost_ret (results_tmp4 rfl _ _ _) rfl ?_)
          exact bd_bad HB.out rfl HX3.out
        have x6 : decide (999999 < (s0 : Int)) = false := by simp; omega
        have T6 := Lib.hid t
        clear t
        by_cases t : 1 ≤ u0
        rotate_left
        · have HB := Lib.hid (HBad.out (by rw [HHd.out]; simp [t]))
          have x7 : decide ((u0 : Int) < 1) = true := by simp; omega
          clear t; clear HBad HHd HBk
          go_wp2_with fail
          ((try simp only [Exit.inBlock, Exit.then]); refine bodyPost_ret (results_tmp4 rfl _ _ _) rfl ?_)
          exact bd_bad HB.out rfl HX3.out
        have x7 : decide ((u0 : Int) < 1) = false := by simp; omega
        have T7 := Lib.hid t
        clear t
        by_cases t : u0 ≤ 1099511627776
        rotate_left
        · have HB := Lib.hid (HBad.out (by rw [HHd.out]; simp [t]))
          have x8 : decide (1099511627776 < (u0 : Int)) = true := by simp; omega
          clear t; clear HBad HHd HBk
          go_wp2_with fail
          ((try simp only [Exit.inBlock, Exit.then]); refine bodyPost_ret (results_tmp4 rfl _ _ _) rfl ?_)
          exact bd_bad HB.out rfl HX3.out
        have x8 : decide (1099511627776 < (u0 : Int)) = false := by simp; omega
        have T8 := Lib.hid t
        clear t
        by_cases t : u1 = Q
        rotate_left
        · have HB := Lib.hid (HBad.out (by rw [HHd.out]; simp [t]))
          have x9 : ((u1 : Int) != (Q : Int)) = true := by simp; omega
          clear t; clear HBad HHd HBk
          go_wp2_with fail
          ((try simp only [Exit.inBlock, Exit.then]); refine bodyPost_ret (results_tmp4 rfl _ _ _) rfl ?_)
          exact bd_bad HB.out rfl HX3.out
        have x9 : ((u1 : Int) != (Q : Int)) = false := by simp; omega
        have T9 := Lib.hid t
        clear t
        have HG : Hid (bkHd (scn b).1 = true) := Lib.hid (by rw [HHd.out, T2.out, T3.out, T4.out, T9.out]; simp [T5.out, T6.out, T7.out, T8.out])
        have HNone : Hid (stsOf ((scn b).1.drop 1).dropLast = none → bkD b = bkBad) := Lib.hid fun h => by rw [HBk.out, if_neg (by rw [HG.out]; simp), h]
        have HGood : Hid (∀ ss, stsOf ((scn b).1.drop 1).dropLast = some ss → bkD b = if bookB 0 ss = true then (s0, u0, ss, 0) else bkBad) := Lib.hid fun ss h => by
          rw [HBk.out, if_neg (by rw [HG.out]; simp), h]
          dsimp only
          rw [HH.out, ← Hu0.out]
        have HInv : Hid (∀ ss, stsOf ((scn b).1.drop 1).dropLast = some ss → SsSm ss) := Lib.hid fun ss h s hs => sm_of_valid (valid_iff.1 ((stsOf_inv h).2 s hs))
        have HOk := Lib.hid (scn_ok b)
        have HMem : Hid (∀ k f, k < Q → (scn b).1[k + 1]? = some f → f ∈ ((scn b).1.drop 1).dropLast ∧ ((scn b).1.drop 1).dropLast.take (k + 1) = ((scn b).1.drop 1).dropLast.take k ++ [f]) := Lib.hid fun k f hk hf => by
          have h := HMid.out k hk
          rw [hf] at h
          exact ⟨List.mem_of_getElem? h, by rw [List.take_add_one, h]; rfl⟩
        have HP3 : Hid (OwnPl w3 w.heap.size (some ⟨g, o, none⟩) N c1 hs) := Lib.hid (HP.out.ext HX13.out)
        have hQN : Q + 2 ≤ N := by have := HQ.out; omega
        have sl : ∀ W, (Instr.slice 148 (.slice (some ⟨g, o, none⟩) N c1) (some (.int .i64 1)) (some (.int .i64 (M : Nat))) none).run Tryz.prog W = .ok (.slice (some ⟨g, o + 5, none⟩) Q (c1 - 1)) W := fun W => by
          rw [HMe.out, HQ.out]
          exact slice_pl g o N c1 (by omega) hNc W
        have hu8 := T8.out
        have cu : IntKind.i64.wrap (u0 : Int) = (u0 : Int) := by rw [IntKind.wrap_i64]; omega
        clear HBk HHd HH Hu0 HMid HG HBad HP T2 T3 T4 T5 T6 T7 T8 T9
        generalize ((scn b).1.drop 1).dropLast = mid at *
        have halp := alloc_pl
        have hals := alloc_st0
        unfold plcells at halp
        dsimp only [List.length_nil] at halp
        go_wp2_with fail
        go_loopw [16, 109] (fun c16 c109 wr => BdR w3 mid Q c16 c109 wr) (fun _ c109 _ => Q - (intOf c109).toNat)
        case atStart => exact ⟨0, none, 0, [], rfl, Nat.zero_le _, rfl, rfl, Ext.rfl' _, OwnSs.nil_ _ _⟩
        case round =>
          obtain ⟨k, B, d, hs2, rfl, hk, rfl, hst, hx, ho⟩ := hrel
          by_cases hlt : k < Q
          · obtain ⟨g', o', A4, c4, x, hxk, hAe, hc, hrd, hlc⟩ := pl_fm Hm.out (HP3.out.ext hx) (show k + 1 < N by omega)
            injection hAe with hAe
            injection hAe with e1 e2
            subst e1 e2
            obtain ⟨hM1, hM2⟩ := HMem.out k _ hlt hxk
            have hlb := (HOk.out _ (List.mem_of_getElem? hxk)).2.2.2
            obtain ⟨at_, sz, kd, sq, body⟩ := x
            dsimp only at hM1 hM2 hlb hrd hlc
            obtain ⟨lb, hlbe⟩ : ∃ l, l = body.length := ⟨_, rfl⟩
            unfold plcells at hc
            dsimp only at hc
            rw [← hlbe] at hc hlb hrd hlc
            have Hc : Hid (wr.rangeAt g (o + 5 + k * 5) (#[.int .i64 (at_ : Nat), .int .i64 (sz : Nat), .int .i64 (kd : Nat), .int .i64 (sq : Nat), .slice A4 lb c4] : Array Value).toList) := Lib.hid (by rw [show o + 5 + k * 5 = o + (k + 1) * 5 by omega]; exact hc)
            have KC := Lib.hid fun W (h : Ext wr W) => cdec_any A4 lb c4 body W (hrd.ext h) hlc (by simp only [maxLen]; omega)
            unfold CanDPost at KC
            obtain ⟨⟨st, Ec⟩, hcan⟩ : ∃ x, x = canD body := ⟨_, rfl⟩
            rw [← hcan] at KC
            dsimp only at KC
            have Hcan := Lib.hid hcan
            have HM1 := Lib.hid hM1
            have HM2 := Lib.hid hM2
            have Hst := Lib.hid hst
            have HXr := Lib.hid hx
            have Ho := Lib.hid ho
            have hl1 := ho.len
            have hbn : (k + 1) * 120 ≤ 140737488355328 := by omega
            obtain ⟨order, status, prior, cur, tax, ls, paid, refunded, events, refused, stamp, who⟩ := st
            obtain ⟨n2, hn2⟩ : ∃ n2, n2 = ls.length := ⟨_, rfl⟩
            have Hn2 := Lib.hid hn2
            unfold stcells at KC
            dsimp only at KC
            rw [← hn2] at KC
            clear hn2 hcan hM1 hM2 hst hx ho hc hrd hlb hlbe hxk
            go_upto_region 15 with (first
              | (change wpList _ _ _ (⟨some 112, _, _, _, _, _⟩ :: _) _ _; refine wp_load_pl rfl (.tmp 111) rfl g (o + 5 + k * 5) rfl #[.int .i64 (at_ : Nat), .int .i64 (sz : Nat), .int .i64 (kd : Nat), .int .i64 (sq : Nat), .slice A4 lb c4] rfl Hc.out ?_)
              | (change wpList _ _ _ (⟨none, .store _ (.tmp 18) _, _, _, _, _⟩ :: _) _ _; refine wpL_store_new rfl 152 (.tmp 18) (.tmp 112) rfl wr.heap.size 152 #[.int .i64 0, .int .i64 0, .int .i64 0, .int .i64 0, .slice none 0 0] #[.int .i64 (at_ : Nat), .int .i64 (sz : Nat), .int .i64 (kd : Nat), .int .i64 (sq : Nat), .slice A4 lb c4] rfl rfl rfl rfl (five_one _ _ _ _ _ _ _) 5 pl_wide rfl ?_)
              | (go_at_call 88; (with_reducible refine (KC.out _ exA).mono ?_); rintro e w4 ⟨As, cs, rfl, hx4, ho4⟩; have b18 : Blk w4 wr.heap.size 152 #[.int .i64 (at_ : Nat), .int .i64 (sz : Nat), .int .i64 (kd : Nat), .int .i64 (sq : Nat), .slice A4 lb c4] := BlkE (BlkN rfl) hx4; have f18 := fun ob => (BlkA (o := ob) b18).cell 2; have f19 := fun ob => (BlkA (o := ob) b18).cell 3)
              | (change wpList _ _ _ (⟨none, .store _ (.tmp 19) _, _, _, _, _⟩ :: _) _ _; refine wpL_store_new rfl 77 (.tmp 19) (.tmp 118) rfl w4.heap.size 77 #[.int .i64 0, .int .i64 0, .int .i64 0, .int .i64 0, .int .i64 0, .slice none 0 0, .int .i64 0, .int .i64 0, .int .i64 0, .int .i64 0, .int .i64 0, .string ⟨#[]⟩] #[.int .i64 order, .int .i64 status, .int .i64 prior, .int .i64 cur, .int .i64 tax, .slice As n2 cs, .int .i64 paid, .int .i64 refunded, .int .i64 events, .int .i64 refused, .int .i64 stamp, .string who] rfl rfl rfl rfl (st_one' _ _ _ _ _ _ _ _ _ _ _ _ _ _) 12 ss_wide rfl ?_))
            have hx5 : Ext wr w4 := (ExtA (Ext.rfl' wr)).tr hx4
            have hX2 : Ext wr (w4.alloc (.cells #[.int .i64 order, .int .i64 status, .int .i64 prior, .int .i64 cur, .int .i64 tax, .slice As n2 cs, .int .i64 paid, .int .i64 refunded, .int .i64 events, .int .i64 refused, .int .i64 stamp, .string who] 77)) := ExtA hx5
            by_cases t : ¬ Ec = 0
            · have HB := Lib.hid (HNone.out (sts_bad HM1.out (show sBad (kd, sq, body) by unfold sBad; rw [← Hcan.out]; dsimp only; exact .inl (by omega))))
              have ya : ((Ec : Int) != 0) = true := by simp; omega
              clear t
              go_wp2_with fail
              ((try simp only [Exit.inBlock, Exit.then]); refine bodyPost_ret (results_tmp4 rfl _ _ _) rfl ?_)
              exact bd_bad HB.out rfl (HX3.out.tr (HXr.out.tr hX2))
            have ya : ((Ec : Int) != 0) = false := by simp; omega
            have Ra := Lib.hid t
            clear t
            by_cases t : ¬ kd = 5
            · have HB := Lib.hid (HNone.out (sts_bad HM1.out (show sBad (kd, sq, body) by unfold sBad; rw [← Hcan.out]; dsimp only; exact .inr (.inl (by omega)))))
              have yb : ((kd : Int) != 5) = true := by simp; omega
              clear t
              go_wp2_with fail
              ((try simp only [Exit.inBlock, Exit.then]); refine bodyPost_ret (results_tmp4 rfl _ _ _) rfl ?_)
              exact bd_bad HB.out rfl (HX3.out.tr (HXr.out.tr hX2))
            have yb : ((kd : Int) != 5) = false := by simp; omega
            have Rb := Lib.hid t
            clear t
            by_cases t : ¬ (sq : Int) = order
            · have HB := Lib.hid (HNone.out (sts_bad HM1.out (show sBad (kd, sq, body) by unfold sBad; rw [← Hcan.out]; dsimp only; exact .inr (.inr (by omega)))))
              have yc : ((sq : Int) != order) = true := by simp; omega
              clear t
              go_wp2_with fail
              ((try simp only [Exit.inBlock, Exit.then]); refine bodyPost_ret (results_tmp4 rfl _ _ _) rfl ?_)
              exact bd_bad HB.out rfl (HX3.out.tr (HXr.out.tr hX2))
            have yc : ((sq : Int) != order) = false := by simp; omega
            have Rc := Lib.hid t
            clear t
            go_wp2_with (first
              | (change wpList _ _ _ (⟨some 137, _, _, _, _, _⟩ :: _) _ _; refine wpL_load_row (o := ⟨some 137, _, _, _, _, _⟩) rfl 77 (.tmp 19) rfl w4.heap.size 77 _ 12 rfl (BlkN rfl) ss_wide (st_size' _ _ _ _ _ _ _ _ _ _ _ _ _ _) ?_)
              | (change wpList _ _ _ (⟨some 139, _, _, _, _, _⟩ :: _) _ _; refine wp_append_ss rfl (.tmp 136) (.tmp 138) rfl w3 rfl (own_ext (ExtA hX2) Ho.out.1) (ExtA (HXr.out.tr hX2)) rfl (news := [(⟨order, status, prior, cur, tax, ls, paid, refunded, events, refused, stamp, who⟩, As, cs)]) (show RdN _ 12 _ 1 _ from by have h9 := ss_new (w4.alloc (.cells #[.int .i64 order, .int .i64 status, .int .i64 prior, .int .i64 cur, .int .i64 tax, .slice As n2 cs, .int .i64 paid, .int .i64 refunded, .int .i64 events, .int .i64 refused, .int .i64 stamp, .string who] 77)) (w4.heap.size + 1) ⟨order, status, prior, cur, tax, ls, paid, refunded, events, refused, stamp, who⟩ As cs (by simp); unfold sscells stcells at h9; dsimp only at h9; rw [← Hn2.out] at h9; exact h9) (by rw [hl1]; exact hbn) ?_; intro B3 n3 d3 w6 hx6 hn3 hown3 hk3 hg3))
            obtain rfl : n3 = k + 1 := by have := hn3.out; rw [hl1] at this; exact this
            go_roundw
            case rel =>
              refine ⟨k + 1, B3, d3, hs2 ++ [(⟨order, status, prior, cur, tax, ls, paid, refunded, events, refused, stamp, who⟩, As, cs)], by go_num, hlt, rfl, ?_, hx6, hown3, fun h hh => ?_⟩
              · rw [HM2.out, sts_snoc Hst.out (by unfold sBad; rw [← Hcan.out]; rintro (h | h | h) <;> first | exact Ra.out h | exact Rb.out h | exact Rc.out h), List.map_append, ← Hcan.out]; rfl
              · rcases List.mem_append.1 hh with hh | hh
                · exact hk3 _ _ _ _ (own_ext (ExtA hX2) (Ho.out.2 h hh))
                · rw [List.mem_singleton.1 hh]
                  have hz := HXr.out.size
                  exact hk3 _ _ _ _ (own_ext (ExtA (ExtA (Ext.rfl' w4))) (own_base ho4 (by simp; omega)))
            case measure => simp [intOf]; omega
          · obtain rfl : k = Q := by omega
            have hmt : mid.take k = mid := List.take_of_length_le (by rw [Hlm.out]; omega)
            rw [hmt] at hst
            have KV := Lib.hid (bvalid_any _ B k d wr ho.rd (by omega) (HInv.out _ hst))
            have HE := Lib.hid (HGood.out _ hst)
            have Ho := Lib.hid ho
            have HXr := Lib.hid hx
            clear hmt hst ho hx
            cases hv : bookB 0 (hs2.map (·.1)) with
            | false =>
              rw [hv] at KV
              have HB := Lib.hid (show bkD b = bkBad by rw [HE.out, if_neg (by rw [hv]; simp)])
              go_wp2_with (go_at_call 79; (with_reducible refine KV.out.mono ?_); rintro e w4 ⟨rfl, hx4⟩)
              ((try simp only [Exit.inBlock, Exit.then]); refine bodyPost_ret (results_tmp4 rfl _ _ _) rfl ?_)
              exact bd_bad HB.out rfl (HX3.out.tr (HXr.out.tr hx4))
            | true =>
              rw [hv] at KV
              have HB := Lib.hid (show bkD b = (s0, u0, hs2.map (·.1), 0) by rw [HE.out, if_pos hv])
              go_wp2_with (go_at_call 79; (with_reducible refine KV.out.mono ?_); rintro e w4 ⟨rfl, hx4⟩)
              ((try simp only [Exit.inBlock, Exit.then]); refine bodyPost_ret (results_tmp4 rfl _ _ _) rfl ?_)
              rw [HB.out]
              have hl := Ho.out.len
              have ho4 := (Ho.out.ext hx4).low HX3.out.size
              refine ⟨B, d, hs2, ?_, rfl, HX3.out.tr (HXr.out.tr hx4), ?_⟩
              · rw [List.length_map, hl]; rfl
              · rw [List.length_map, hl]; exact ho4
  · have HB := Lib.hid (show bkD b = bkBad by unfold bkD; rw [if_pos (.inl (by omega))])
    have x1 : ((E : Int) != 0) = true := by simp; omega
    clear hE hNn h0 hr hns
    go_enter Tryz.func33, Tryz.ntmps33
    go_wp2_with (go_at_call 86; (with_reducible refine KS.out.mono ?_); rintro e w1 ⟨A1, c1, hs, rfl, hm, hx1, ho1⟩)
    ((try simp only [Exit.inBlock, Exit.then]); refine bodyPost_ret (results_tmp4 rfl _ _ _) rfl ?_)
    exact bd_bad HB.out rfl hx1
end Go.Proofs.YtjajbbgebblalaaGreatDoor
