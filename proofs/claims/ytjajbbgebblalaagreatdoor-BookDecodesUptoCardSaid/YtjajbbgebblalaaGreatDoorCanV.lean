/-
  The walks of the reference's clamp and Line.
-/
/-
  The plain law of the reference's reading, field by field. No program in sight.
-/
/-
  The walk of the reference's Decode of a state's record.
-/
import Derived.Test.YtjajbbgebblalaaGreatDoorCanL
import Derived.Test.YtjajbbgebblalaaGreatDoorVarE
import Derived.Test.YtjajbbgebblalaaGreatDoorRdW
import Derived.StillTailTactics
import Derived.Test.YtjajbbgebblalaaGreatDoorVarP
import Derived.Test.YtjajbbgebblalaaGreatDoorCanD
import Derived.Test.YtjajbbgebblalaaGreatDoorOrdRa
namespace Go.Proofs.YtjajbbgebblalaaGreatDoor
open Go.RowKit
set_option linter.unusedVariables false
set_option linter.unusedSimpArgs false
set_option maxRecDepth 100000 in
set_option maxHeartbeats 2000000 in
theorem clamp_any (u : Nat) (hu : u ≤ 18446744073709551615) (w : World) : Calls Tryz.prog 126 #[.int .u64 (u : Nat)] w fun e w' => e = .returned (.int .i64 (clampN u : Nat)) ∧ w = w' := by
  by_cases h : 4611686018427387904 < u
  · have e : clampN u = 4611686018427387904 := by unfold clampN; rw [if_pos h]
    have he := Lib.hid e
    have t0 : decide ((4611686018427387904 : Int) < (u : Int)) = true := by simp; omega
    clear e h
    go_enter Tryz.func126, Tryz.ntmps126
    go_wp2_with fail
    go_ret
    exact ⟨by rw [he.out]; rfl, rfl⟩
  · have e : clampN u = u := by unfold clampN; rw [if_neg h]
    have he := Lib.hid e
    have t0 : decide ((4611686018427387904 : Int) < (u : Int)) = false := by simp; omega
    have hb : (u : Int) ≤ 4611686018427387904 := by omega
    clear e h
    go_enter Tryz.func126, Tryz.ntmps126
    go_wp2_with fail
    go_ret
    exact ⟨by rw [he.out]; rfl, rfl⟩
theorem el_in : Elem Tryz.prog 3 (.int .i64 0) 1 8 := ⟨by kernel_rfl, rfl, by decide⟩
def ivs (l : List Int) : List Value := l.map (Value.int .i64)
theorem ivs_app (l m : List Int) : ivs (l ++ m) = ivs l ++ ivs m := by simp [ivs]
theorem one_ivs (l : List Int) : ∀ u ∈ ivs l, u.oneCell' = true := fun u hu => by simp [ivs] at hu; obtain ⟨x, _, rfl⟩ := hu; rfl
theorem rd_set4 {w : World} {b o g n : Nat} {xs : List Value} {v0 v1 v2 v3 : Value} (hne : g ≠ b) (h : Rd w (some ⟨b, o, none⟩) n xs) : Rd ((((w.setCell ⟨g, 0, none⟩ v0).setCell ⟨g, 1, none⟩ v1).setCell ⟨g, 2, none⟩ v2).setCell ⟨g, 3, none⟩ v3) (some ⟨b, o, none⟩) n xs := by
  have ht : Turn [g] w ((((w.setCell ⟨g, 0, none⟩ v0).setCell ⟨g, 1, none⟩ v1).setCell ⟨g, 2, none⟩ v2).setCell ⟨g, 3, none⟩ v3) := (((Turn.cell (by simp)).tr (Turn.cell (by simp))).tr (Turn.cell (by simp))).tr (Turn.cell (by simp))
  exact ht.rd1 h fun r hr hc => by simp [blkOf] at hr; rw [List.mem_singleton] at hc; omega
def RlR (w : World) (l : List UInt8) (c4 c5 : Value) (wr : World) : Prop :=
  ∃ (vs : List Int) (A : Option Addr) (c at_ : Nat), c4 = .slice A vs.length c ∧ c5 = .int .i64 (at_ : Nat) ∧ vs.length ≤ 4 ∧ at_ ≤ l.length ∧ wr.ownsRow w.heap.size 3 1 (.slice A vs.length c) vs.length (ivs vs) ∧
    unlV 4 l = (unlV (4 - vs.length) (l.drop at_)).map (fun x => (vs ++ x.1, x.2)) ∧ Ext w wr ∧ Blk wr w.heap.size 79 #[.int .i64 0, .int .i64 0, .int .i64 0, .int .i64 0]
set_option maxRecDepth 100000 in
set_option maxHeartbeats 4000000 in
theorem rline_any (A : Option Addr) (n c : Nat) (l : List UInt8) (w : World) (hr : Rd w A n (u8s l)) (hnc : n ≤ c) (hn : n ≤ maxLen) :
    Calls Tryz.prog 127 #[.slice A n c] w (UnPost w l) := by
  have hll : l.length = n := by have := hr.1; rw [u8s_len] at this; exact this
  unfold UnPost
  have hal := alloc_ln
  unfold lncells at hal
  dsimp only at hal
  unfold maxLen at hn
  have HLL := Lib.hid hll
  have HR := Lib.hid hr
  clear hll hr
  go_enter Tryz.func127, Tryz.ntmps127
  go_wp2_with fail
  go_loopw [4, 5] (fun c4 c5 wr => RlR w l c4 c5 wr) (fun c4 _ _ => match c4 with | .slice _ m _ => 4 - m | _ => 0)
  case atStart => exact ⟨[], _, 0, 0, rfl, rfl, by simp, by omega, own_blk (BlkN (by simp)) (by simp) rfl (Nat.le_refl _) (by decide), by simp, (by repeat (first | with_reducible exact Below.refl _ _ | with_reducible assumption | with_reducible refine ExtD ?_ | with_reducible refine ExtDN ?_ | with_reducible refine ExtA ?_ | (with_reducible refine ExtR ?_ ?_; (first | omega | (dsimp only; omega) | (simp; done) | (simp; omega))) | (with_reducible refine ExtS ?_ ?_; (first | omega | (dsimp only; omega) | (simp; done) | (simp; omega))) | with_reducible refine Ext.tr ?_ (by with_reducible assumption))), BlkA (BlkN rfl)⟩
  case round =>
    obtain ⟨vs, A1, c1, at_, rfl, rfl, hvs, hat, ho, hun, hx, hb1⟩ := hrel
    have hnn := HLL.out
    obtain ⟨A', hsl, hrd⟩ := slice_lo A n c at_ (by omega) hnc
    have R1 := hrd wr l (HR.out.ext hx)
    have HO := Lib.hid ho
    have HB1 := Lib.hid hb1
    have HUN := Lib.hid hun
    clear hrd ho hb1 hun
    by_cases h4 : vs.length < 4
    · obtain ⟨⟨u, d, e⟩, hv⟩ : ∃ x, x = vdec (l.drop at_) := ⟨_, rfl⟩
      have K := rvdec_any A' (n - at_) (c - at_) (l.drop at_) wr R1 (by simp only [maxLen]; omega)
      unfold DecT at K
      rw [← hv] at K
      dsimp only at K
      have HK := Lib.hid K
      clear K
      by_cases he : e = 0
      · subst he
        obtain ⟨r, hr2, hd, hu⟩ := vdec_inv hv.symm
        have hdn : at_ + d ≤ l.length := by
          have := congrArg List.length hr2
          rw [List.length_drop, List.length_append, ← hd] at this
          omega
        have hu2 : unlV 4 l = (unlV (4 - (vs ++ [((clampN u : Nat) : Int)]).length) (l.drop (at_ + d))).map (fun x => ((vs ++ [((clampN u : Nat) : Int)]) ++ x.1, x.2)) := by
          rw [HUN.out, show 4 - vs.length = (4 - (vs ++ [((clampN u : Nat) : Int)]).length) + 1 by simp; omega, unl_step hv.symm, Option.map_map, List.drop_drop]
          congr 1
          funext x
          simp
        have HU := Lib.hid hu2
        have KS := Lib.hid (clamp_any u (by omega))
        have hcl := clampN_le u
        have R0 : ∀ W : World, Rd (W.alloc (.cells #[.int .i64 (clampN u : Nat)] 3)) (some ⟨W.heap.size, 0, none⟩) 1 (ivs [((clampN u : Nat) : Int)]) := fun W => rd_new W #[.int .i64 (clampN u : Nat)] 3
        have HR0 := Lib.hid R0
        have hw1 : IntKind.i64.wrap ((at_ : Int) + (d : Int)) = (at_ : Int) + (d : Int) := by rw [IntKind.wrap_i64]; omega
        clear hu2 hr2 hd hu hv R0 hw1 R1
        generalize clampN u = m at *
        have Hnn := Lib.hid hnn
        go_wp2_with (first
          | (go_at_call 83; (with_reducible refine (HK.out).mono ?_); rintro e w1 ⟨rfl, rfl⟩)
          | (go_at_call 126; (with_reducible refine (KS.out _).mono ?_); rintro e w2 ⟨rfl, rfl⟩)
          | (at_builtin; refine wpL_append rfl (.tmp 24) (.tmp 27) 42 rfl w.heap.size 3 _ 1 8 Tryz.underlying42 el_in _ vs.length _ rfl (HO.out.alloc _) _ 1 1 _ rfl (HR0.out _).toN (one_ivs _) (vs.length + 1) _ rfl (ivs_app _ _).symm (by simp only [maxLen]; omega) (by omega) (by have := hx.size; simp; omega) ?_; intro v5 w5 hown5 hg5 hl5; obtain ⟨A5, c5, rfl⟩ := own_slice hown5; have O5 := Lib.hid hown5; have X5 : Ext w w5 := Ext.grown (ExtA hx) hg5 (fun r hr => (HO.out.lt r hr).1); have B5 := Lib.hid (BlkG (BlkA (o := .cells #[.int .i64 (m : Nat)] 3) HB1.out) hg5 (fun hc => (blk_off HO.out HB1.out (by decide)) hc.symm)); clear hown5 hg5 hl5))
        go_roundw
        case rel => exact ⟨vs ++ [(m : Int)], A5, c5, at_ + d, by simp, by go_num, by simp; omega, hdn, by have := O5.out; simpa using this, HU.out, X5, B5.out⟩
        case measure => simp; omega
      · have hbad : unl l = (⟨0, 0, 0, 0⟩, false) := by
          unfold unl
          rw [HUN.out, show 4 - vs.length = (3 - vs.length) + 1 by omega, unl_bad (by rw [← hv]; exact he)]
          rfl
        have HB := Lib.hid hbad
        have te : ((e : Int) != 0) = true := by simp; exact he
        clear hbad hv R1 he
        go_wp2_with (first
          | (go_at_call 83; (with_reducible refine (HK.out).mono ?_); rintro e w1 ⟨rfl, rfl⟩)
          | (change wpList _ _ _ (⟨none, .store _ (.tmp 2) (.tmp 23), _, _, _, _⟩ :: _) _ _; refine wpL_store_row rfl 79 (.tmp 2) (.tmp 23) rfl w.heap.size 79 _ _ rfl rfl HB1.out rfl (ln_one ⟨0, 0, 0, 0⟩) 4 ln_wide rfl ?_))
        refine bodyPost_ret (v := .tuple #[.agg #[.int .i64 0, .int .i64 0, .int .i64 0, .int .i64 0], .bool false]) (res_row_t rfl _ w.heap.size 79 _ 4 _ rfl rfl (Blk.setRow_ HB1.out) ln_wide rfl) rfl ?_
        rw [HB.out]
        exact ⟨rfl, (by repeat (first | with_reducible exact Below.refl _ _ | with_reducible assumption | with_reducible refine ExtD ?_ | with_reducible refine ExtDN ?_ | with_reducible refine ExtA ?_ | (with_reducible refine ExtR ?_ ?_; (first | omega | (dsimp only; omega) | (simp; done) | (simp; omega))) | (with_reducible refine ExtS ?_ ?_; (first | omega | (dsimp only; omega) | (simp; done) | (simp; omega))) | with_reducible refine Ext.tr ?_ (by with_reducible assumption)))⟩
    · have hv4 : vs.length = 4 := by omega
      match vs, hv4 with
      | [v0, v1, v2, v3], _ =>
        have hu2 : unl l = (⟨v0, v1, v2, v3⟩, (l.drop at_).isEmpty) := by
          unfold unl
          rw [HUN.out]
          rfl
        have hre : (l.drop at_).isEmpty = decide (at_ = n) := by
          rw [Bool.eq_iff_iff]
          simp
          omega
        rw [hre] at hu2
        have HU := Lib.hid hu2
        have te : ((at_ : Int) == (n : Int)) = decide (at_ = n) := by rw [Bool.eq_iff_iff]; simp; omega
        obtain ⟨b, o, rfl, hcell⟩ := (Rd.of_own HO.out).some_ (by simp)
        have q0 : wr.cell? ⟨b, o, none⟩ = some (.int .i64 v0) := hcell 0 (by simp)
        have q1 : wr.cell? ⟨b, o + 1, none⟩ = some (.int .i64 v1) := hcell 1 (by simp)
        have q2 : wr.cell? ⟨b, o + 2, none⟩ = some (.int .i64 v2) := hcell 2 (by simp)
        have q3 : wr.cell? ⟨b, o + 3, none⟩ = some (.int .i64 v3) := hcell 3 (by simp)
        clear hu2 hre R1 hcell
        simp only [List.length_cons, List.length_nil, Nat.zero_add, Nat.reduceAdd]
        go_wp2_with fail
        have hne : w.heap.size ≠ b := fun h => blk_off HO.out HB1.out (by decide) (by rw [h]; rfl)
        have hq0 : Rd wr.drew (some ⟨b, o, none⟩) 4 (ivs [v0, v1, v2, v3]) := Rd.of_own HO.out
        have HSQ : Hid (∀ W, Rd W (some ⟨b, o, none⟩) 4 (ivs [v0, v1, v2, v3]) → Rd W (some ⟨b, o, none⟩) 4 (ivs [v0, v1, v2, v3]) ∧ W.cell? ⟨b, o, none⟩ = some (.int .i64 v0) ∧ W.cell? ⟨b, o + 1, none⟩ = some (.int .i64 v1) ∧ W.cell? ⟨b, o + 2, none⟩ = some (.int .i64 v2) ∧ W.cell? ⟨b, o + 3, none⟩ = some (.int .i64 v3)) := Lib.hid fun W h => ⟨h, by
          obtain ⟨b', o', he, hc⟩ := h.some_ (by omega)
          injection he with he
          injection he with e1 e2
          subst e1 e2
          exact ⟨hc 0 (by omega), hc 1 (by omega), hc 2 (by omega), hc 3 (by omega)⟩⟩
        have p0 : wr.cell? ⟨w.heap.size, 0, none⟩ = some (.int .i64 0) := HB1.out.cell 0
        have p1 : wr.cell? ⟨w.heap.size, 1, none⟩ = some (.int .i64 0) := HB1.out.cell 1
        have p2 : wr.cell? ⟨w.heap.size, 2, none⟩ = some (.int .i64 0) := HB1.out.cell 2
        have p3 : wr.cell? ⟨w.heap.size, 3, none⟩ = some (.int .i64 0) := HB1.out.cell 3
        have f0 : wr.frozen? ⟨w.heap.size, 0, none⟩ = false := HB1.out.frozen 0
        have f1 : wr.frozen? ⟨w.heap.size, 1, none⟩ = false := HB1.out.frozen 1
        have f2 : wr.frozen? ⟨w.heap.size, 2, none⟩ = false := HB1.out.frozen 2
        have f3 : wr.frozen? ⟨w.heap.size, 3, none⟩ = false := HB1.out.frozen 3
        have HB3 := Lib.hid (show Blk wr.drew w.heap.size 79 #[.int .i64 0, .int .i64 0, .int .i64 0, .int .i64 0] from BlkD HB1.out)
        have HX2 := Lib.hid (ExtD hx)
        have Hq0 := Lib.hid hq0
        have Hne := Lib.hid hne
        clear hx q0 q1 q2 q3 hq0 hne
        go_region_held3 (fun w' => Rd w' (some ⟨b, o, none⟩) 4 (ivs [v0, v1, v2, v3]) ∧ w'.cell? ⟨b, o, none⟩ = some (.int .i64 v0) ∧ w'.cell? ⟨b, o + 1, none⟩ = some (.int .i64 v1) ∧ w'.cell? ⟨b, o + 2, none⟩ = some (.int .i64 v2) ∧ w'.cell? ⟨b, o + 3, none⟩ = some (.int .i64 v3))
          (first
            | exact HSQ.out _ Hq0.out
            | (refine HSQ.out _ (rd_set4 Hne.out Hq0.out))
            | (go_split_ands; refine HSQ.out _ ?_; with_reducible assumption))
          (fail)
        all_goals
          go_wp2_with fail
          refine bodyPost_ret (v := .tuple #[.agg #[.int .i64 v0, .int .i64 v1, .int .i64 v2, .int .i64 v3], .bool (decide (at_ = n))]) (res_row_t rfl _ w.heap.size 79 _ 4 _ rfl rfl (BlkS (BlkS (BlkS (BlkS HB3.out)))) ln_wide rfl) rfl ?_
          rw [HU.out]
          exact ⟨rfl, ExtS (by dsimp only; omega) (ExtS (by dsimp only; omega) (ExtS (by dsimp only; omega) (ExtS (by dsimp only; omega) HX2.out)))⟩
end Go.Proofs.YtjajbbgebblalaaGreatDoor

namespace Go.Proofs.YtjajbbgebblalaaGreatDoor
open Go.RowKit
set_option linter.unusedVariables false
set_option linter.unusedSimpArgs false
theorem textAt_snoc {P : List Fld} {f : Fld} (h : ∀ g ∈ P, g.tag < f.tag) (t : Int) : textAt (P ++ [f]) t = if f.tag = t then (if f.text = true then f.bytes else []) else textAt P t := by
  unfold textAt
  rw [find_snoc h]
  by_cases ht : f.tag = t
  · rw [if_pos ht, if_pos ht]
  · rw [if_neg ht, if_neg ht]
theorem numAt_snoc {P : List Fld} {f : Fld} (h : ∀ g ∈ P, g.tag < f.tag) (t : Int) : cnumAt (P ++ [f]) t = if f.tag = t then (if f.text = false then f.num else 0) else cnumAt P t := by
  unfold cnumAt
  rw [find_snoc h]
  by_cases ht : f.tag = t
  · rw [if_pos ht, if_pos ht]
  · rw [if_neg ht, if_neg ht]
theorem run_congr (fs gs : List Fld) (n : Nat) (t : Int) (h : ∀ i : Nat, i ≤ (runT fs n t).length → i < n → textAt gs (t + i) = textAt fs (t + i)) : runT gs n t = runT fs n t := by
  induction n generalizing t with
  | zero => rfl
  | succ n ih =>
    have h0 := h 0 (Nat.zero_le _) (by omega)
    simp only [Int.natCast_zero, Int.add_zero, Int.ofNat_zero] at h0
    have h0' : textAt gs t = textAt fs t := by simpa using h 0 (Nat.zero_le _) (by omega)
    rw [runT, runT, h0']
    split
    · rfl
    · rename_i hne
      congr 1
      refine ih (t + 1) fun i hi hn => ?_
      have := h (i + 1) (by rw [runT, if_neg hne, List.length_cons]; omega) (by omega)
      rw [show t + 1 + (i : Int) = t + ((i + 1 : Nat) : Int) by omega]
      exact this
theorem run_ext (fs gs : List Fld) (b : List UInt8) (hb : b ≠ []) (n : Nat) (t : Int) (hn : (runT fs n t).length < n) (h : ∀ i : Nat, i < (runT fs n t).length → textAt gs (t + i) = textAt fs (t + i))
    (h1 : textAt gs (t + (runT fs n t).length) = b) (h2 : textAt gs (t + (runT fs n t).length + 1) = []) : runT gs n t = runT fs n t ++ [b] := by
  induction n generalizing t with
  | zero => simp at hn
  | succ n ih =>
    by_cases h0 : textAt fs t = []
    · have e : runT fs (n + 1) t = [] := by rw [runT, if_pos h0]
      rw [e] at h1 h2 ⊢
      simp only [List.length_nil] at h1 h2
      have h1' : textAt gs t = b := by simpa using h1
      have h2' : textAt gs (t + 1) = [] := by simpa using h2
      rw [runT, h1', if_neg hb]
      cases n with
      | zero => rfl
      | succ m => rw [runT, if_pos h2']; rfl
    · have e : runT fs (n + 1) t = textAt fs t :: runT fs n (t + 1) := by rw [runT, if_neg h0]
      rw [e] at hn h h1 h2 ⊢
      simp only [List.length_cons] at hn h h1 h2
      have hg : textAt gs t = textAt fs t := by simpa using h 0 (by omega)
      rw [runT, hg, if_neg h0, List.cons_append]
      congr 1
      refine ih (t + 1) (by omega) (fun i hi => ?_) ?_ ?_
      · have := h (i + 1) (by omega)
        rw [show t + 1 + (i : Int) = t + ((i + 1 : Nat) : Int) by omega]
        exact this
      · rw [show t + 1 + ((runT fs n (t + 1)).length : Int) = t + (((runT fs n (t + 1)).length + 1 : Nat) : Int) by omega]
        exact h1
      · rw [show t + 1 + ((runT fs n (t + 1)).length : Int) + 1 = t + (((runT fs n (t + 1)).length + 1 : Nat) : Int) + 1 by omega]
        exact h2
theorem run_ge (gs : List Fld) (n : Nat) (t : Int) (m : Nat) (hm : m ≤ n) (h : ∀ i : Nat, i < m → textAt gs (t + i) ≠ []) : m ≤ (runT gs n t).length := by
  induction n generalizing t m with
  | zero => omega
  | succ n ih =>
    cases m with
    | zero => omega
    | succ m =>
      have h0 : textAt gs t ≠ [] := by simpa using h 0 (by omega)
      rw [runT, if_neg h0, List.length_cons]
      have := ih (t + 1) m (by omega) fun i hi => by
        have := h (i + 1) (by omega)
        rw [show t + 1 + (i : Int) = t + ((i + 1 : Nat) : Int) by omega]
        exact this
      omega
theorem textAt_far {P : List Fld} {t : Int} (h : ∀ g ∈ P, g.tag ≠ t) : textAt P t = [] := by unfold textAt; rw [find_none h]
theorem run_low {P : List Fld} (h : ∀ g ∈ P, g.tag ≤ 11) : runOf P = [] := by
  unfold runOf
  rw [runT, if_pos (textAt_far fun g hg => by have := h g hg; omega)]
theorem lastK_low {P : List Fld} (h : runOf P = []) : lastK P = 12 := by unfold lastK; rw [h]; rfl
theorem lastK_len (P : List Fld) : lastK P = 11 + (if (runOf P).length < 16 then (runOf P).length + 1 else 16 : Nat) := rfl
/-- What the reference's reading knows behind the fields P. -/
def RdOk (P : List Fld) (gap : Bool) : Prop := (∀ f ∈ P, f.tag ≤ lastK P → wrongF f = false) ∧ gap = P.any fun f => decide (lastK P < f.tag)
theorem rd_start : RdOk [] false := ⟨fun f hf => (by cases hf), rfl⟩
theorem rd_end {P : List Fld} {gap : Bool} (h : RdOk P gap) : formE P = if gap = true then 20 else 0 := by
  unfold formE
  rw [if_neg, ← h.2]
  simp only [List.any_eq_true, and_t, decide_eq_true_eq, not_exists, not_and]
  intro f hf hk
  rw [h.1 f hf hk]
  simp
theorem rd_bad {fs : List Fld} {f : Fld} (hf : f ∈ fs) (hk : f.tag ≤ lastK fs) (hw : wrongF f = true) : formE fs = 33 := by
  unfold formE
  rw [if_pos]
  simp only [List.any_eq_true, and_t, decide_eq_true_eq]
  exact ⟨f, hf, hk, hw⟩
theorem lastK_ge (P : List Fld) : 12 ≤ lastK P ∧ lastK P ≤ 27 := by
  unfold lastK
  have := run_len P 16 12
  unfold runOf
  split <;> omega
section
variable {P : List Fld} {f : Fld} {gap : Bool} (hr : ∀ g ∈ P, g.tag < f.tag)
include hr
theorem stp_low (h : RdOk P gap) (ht : f.tag ≤ 11) (hw : wrongF f = false) : RdOk (P ++ [f]) gap ∧ runOf (P ++ [f]) = runOf P ∧ gap = false := by
  have h1 : ∀ g ∈ P, g.tag ≤ 11 := fun g hg => by have := hr g hg; omega
  have h2 : ∀ g ∈ P ++ [f], g.tag ≤ 11 := fun g hg => by
    rcases List.mem_append.1 hg with hg | hg
    · exact h1 g hg
    · rw [List.mem_singleton.1 hg]; exact ht
  have e1 := run_low h1
  have e2 := run_low h2
  have k1 := lastK_low e1
  have k2 := lastK_low e2
  have hg : gap = false := by
    rw [h.2, k1]
    simp only [List.any_eq_false, decide_eq_true_eq]
    intro g hg
    have := h1 g hg
    omega
  refine ⟨⟨fun g hg hk => ?_, ?_⟩, by rw [e1, e2], hg⟩
  · rcases List.mem_append.1 hg with hg | hg
    · exact h.1 g hg (by rw [k1]; have := h1 g hg; omega)
    · rw [List.mem_singleton.1 hg]; exact hw
  · rw [hg, k2]
    symm
    simp only [List.any_eq_false, decide_eq_true_eq]
    intro g hg
    have := h2 g hg
    omega
theorem stp_gap (h : RdOk P gap) (ht : (11 < f.tag ∧ f.tag ≠ 12 + (runOf P).length) ∨ 27 < f.tag) : RdOk (P ++ [f]) true ∧ runOf (P ++ [f]) = runOf P := by
  have hlen := run_len P 16 12
  have hpast : 12 + ((runOf P).length : Int) ≤ f.tag := by
    rcases Nat.eq_zero_or_pos (runOf P).length with h0 | h0
    · rw [h0]; omega
    · obtain ⟨h1, h2⟩ := run_at P 16 12 ((runOf P).length - 1) (by unfold runOf at h0 ⊢; omega)
      by_cases hc : ∃ g ∈ P, g.tag = 12 + (((runOf P).length - 1 : Nat) : Int)
      · obtain ⟨g, hg, hgt⟩ := hc
        have := hr g hg
        omega
      · exact absurd (textAt_far fun g hg hgt => hc ⟨g, hg, hgt⟩) h2
  have hKf : lastK P < f.tag := by
    rw [lastK_len]
    split <;> omega
  have e : runOf (P ++ [f]) = runOf P := by
    unfold runOf
    refine run_congr P (P ++ [f]) 16 12 fun i hi hn => ?_
    rw [textAt_snoc hr, if_neg]
    intro hc
    have : (runOf P).length = (runT P 16 12).length := rfl
    omega
  have k : lastK (P ++ [f]) = lastK P := by unfold lastK; rw [e]
  refine ⟨⟨fun g hg hk => ?_, ?_⟩, e⟩
  · rw [k] at hk
    rcases List.mem_append.1 hg with hg | hg
    · exact h.1 g hg hk
    · rw [List.mem_singleton.1 hg] at hk; omega
  · rw [k, List.any_append]
    simp [hKf]
theorem stp_line (h : RdOk P gap) (ht : f.tag = 12 + (runOf P).length) (h27 : f.tag ≤ 27) (hx : f.text = true) (hb : f.bytes ≠ []) : RdOk (P ++ [f]) gap ∧ runOf (P ++ [f]) = runOf P ++ [f.bytes] ∧ gap = false := by
  have hl : (runT P 16 12).length < 16 := by have : (runOf P).length = (runT P 16 12).length := rfl; omega
  have e : runOf (P ++ [f]) = runOf P ++ [f.bytes] := by
    unfold runOf
    refine run_ext P (P ++ [f]) f.bytes hb 16 12 hl (fun i hi => ?_) ?_ ?_
    · rw [textAt_snoc hr, if_neg]
      intro hc
      have : (runOf P).length = (runT P 16 12).length := rfl
      omega
    · rw [textAt_snoc hr, if_pos (by rw [ht]; rfl), if_pos hx]
    · rw [textAt_snoc hr, if_neg (by rw [ht]; unfold runOf; omega)]
      exact textAt_far fun g hg => by have := hr g hg; unfold runOf at ht; omega
  have k1 : lastK P = 12 + (runOf P).length := by
    rw [lastK_len, if_pos (show (runOf P).length < 16 from hl)]
    have : (runOf P).length = (runT P 16 12).length := rfl
    omega
  have k2 : lastK P ≤ lastK (P ++ [f]) ∧ f.tag ≤ lastK (P ++ [f]) := by
    rw [k1, lastK_len, e, List.length_append, List.length_singleton]
    split <;> omega
  have hg : gap = false := by
    rw [h.2]
    simp only [List.any_eq_false, decide_eq_true_eq]
    intro g hg
    have := hr g hg
    omega
  refine ⟨⟨fun g hg hk => ?_, ?_⟩, e, hg⟩
  · rcases List.mem_append.1 hg with hg | hg
    · exact h.1 g hg (by have := hr g hg; omega)
    · rw [List.mem_singleton.1 hg]
      unfold wrongF
      rw [hx, decide_eq_true (by omega)]
      rfl
  · rw [hg]
    symm
    simp only [List.any_eq_false, decide_eq_true_eq]
    intro g hg
    rcases List.mem_append.1 hg with hg | hg
    · have := hr g hg; omega
    · rw [List.mem_singleton.1 hg]; omega
end
theorem bad_low {fs : List Fld} {f : Fld} (hf : f ∈ fs) (ht : f.tag ≤ 11) (hw : wrongF f = true) : formE fs = 33 := rd_bad hf (by have := (lastK_ge fs).1; omega) hw
theorem bad_line {fs P R : List Fld} {f : Fld} (hfs : fs = P ++ f :: R) (hrise : rising 0 fs) (ht : f.tag = 12 + (runOf P).length) (h27 : f.tag ≤ 27) (hx : f.text = false) : formE fs = 33 := by
  have hm : f ∈ fs := by rw [hfs]; simp
  refine rd_bad hm ?_ (by unfold wrongF; rw [hx, decide_eq_true (by omega)]; rfl)
  have hge : (runOf P).length ≤ (runOf fs).length := by
    refine run_ge fs 16 12 _ (run_len P 16 12) fun i hi => ?_
    obtain ⟨h1, h2⟩ := run_at P 16 12 i hi
    have : textAt fs (12 + (i : Int)) = textAt P (12 + (i : Int)) := by
      unfold textAt
      have hfe : findF fs (12 + (i : Int)) = findF P (12 + (i : Int)) := by
        rw [hfs, find_app]
        cases hq : findF P (12 + (i : Int)) with
        | some x => rfl
        | none =>
          exfalso
          apply h2
          unfold textAt
          rw [hq]
      rw [hfe]
    rw [this]
    exact h2
  rw [lastK_len]
  have := run_len fs 16 12
  have : (runOf fs).length = (runT fs 16 12).length := rfl
  split <;> omega
/-- The fields so far, one more. -/
theorem rise_snoc {b : Int} {fs : List Fld} (h : rising b fs) {k : Nat} (hk : k < fs.length) : ∀ g ∈ fs.take k, g.tag < fs[k].tag := by
  induction fs generalizing b k with
  | nil => simp at hk
  | cons f r ih =>
    cases k with
    | zero => intro g hg; simp at hg
    | succ k =>
      intro g hg
      rw [List.take_succ_cons] at hg
      have hk' : k < r.length := by simpa using hk
      rcases List.mem_cons.1 hg with rfl | hg
      · exact rising_mem h.2 _ (List.getElem_mem hk')
      · exact ih h.2 hk' g hg
end Go.Proofs.YtjajbbgebblalaaGreatDoor
