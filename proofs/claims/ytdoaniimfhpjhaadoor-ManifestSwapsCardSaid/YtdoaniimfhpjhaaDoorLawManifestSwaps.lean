/-
  'ManifestSwaps' as the given card says it, for every input: it returns true, and each argument reads behind the call as it read before; the table of the check sum is tied to the program's text. No condition. The walk lies in SwE.
-/
import Derived.Test.YtdoaniimfhpjhaaDoorRows
import Derived.Test.YtdoaniimfhpjhaaDoorCards
import Derived.Test.YtdoaniimfhpjhaaDoorTie
import Derived.Test.YtdoaniimfhpjhaaDoorSwD
import Derived.Test.YtdoaniimfhpjhaaDoorOpA
import Derived.ProofKit
import Derived.OpenShut
import Derived.ShutString
import Derived.ChangeOld
import Derived.SizedLaws
import Derived.LaidMore
import Derived.Stop.Joined
import Derived.SevenTiedAt
namespace Go.Proofs.YtdoaniimfhpjhaaDoor.manifestSwaps
open Go.ChangeShapes Go.WideShapes Go.ChangeAt Go.RowKit
open Go.ChangeMaps (open_string shut_string)
set_option linter.unusedVariables false
set_option linter.unusedSimpArgs false

theorem own : ownKnob Tryd.prog.godebug = none := by kernel_rfl
theorem laidOut : laidOutB Tryd.prog = true := by kernel_rfl
theorem gNib : Tryd.prog.globalNamed "daybook/crc.nibbles" = some 0 := by kernel_rfl
theorem tNib : (Tryd.prog.globals[0]?).map (·.type) = some 120 := by kernel_rfl
theorem door_met (os : Os) (args : Array Value) : laidMetH Tryd.prog [("daybook/crc.nibbles", Rows.laid_daybook_crc_nibbles)] ((World.doorLaid Tryd.prog 400 os).forCall (fun _ _ => 0) ⟨#[], args, []⟩).memory := by
  rw [MakeChecks.laidMetH_plain _ _ _ (by kernel_rfl)]
  exact laidMet_of_run' 8 (by kernel_rfl) (by kernel_rfl)
set_option maxRecDepth 100000 in
theorem nib_of {W : World} (h : laidMetH Tryd.prog [("daybook/crc.nibbles", Rows.laid_daybook_crc_nibbles)] W) : Nib W := by
  rw [MakeChecks.laidMetH_plain _ _ _ (by kernel_rfl)] at h
  obtain ⟨ps, ⟨g0, t0, cs0, f0, p0, q0, hg0, ht0, hv0, hd0, _⟩, _⟩ := h
  obtain rfl := Option.some.inj (gNib.symm.trans hg0)
  obtain rfl := Option.some.inj (tNib.symm.trans ht0)
  obtain ⟨xs, m1, rfl, hx1, hlen, hn3, hel⟩ := DataW.trod_array Tryd.underlying120 hd0
  have c3 : Tryd.prog.cellsOf 86 = 1 := by kernel_rfl
  intro i hi
  have hcc := World.var?_cell hg0 hv0 i
  have hz := hel i hi
  rw [c3] at hz
  simp only [Rows.laid_daybook_crc_nibbles, Prod.mk.injEq, DataW.agg.injEq] at hx1
  obtain ⟨x, hx⟩ : ∃ x, xs[i]? = some x := ⟨xs[i]'(by omega), List.getElem?_eq_getElem (by omega)⟩
  rw [hx] at hz
  obtain ⟨k, e1, e2, _⟩ := DataW.trod_int Tryd.underlying86 hz
  have hl : (xs.map (·.1))[i]? = some (.lit (.int .u32 k)) := by rw [List.getElem?_map, hx, e2]; rfl
  have hk : k = (nibs.getD i 0 : Nat) := by
    rw [← hx1.1] at hl
    match i, hi, hl with
    | 0, _, hl => exact (Lit.int.inj (DataW.lit.inj (Option.some.inj hl))).2.symm.trans (by kernel_rfl)
    | 1, _, hl => exact (Lit.int.inj (DataW.lit.inj (Option.some.inj hl))).2.symm.trans (by kernel_rfl)
    | 2, _, hl => exact (Lit.int.inj (DataW.lit.inj (Option.some.inj hl))).2.symm.trans (by kernel_rfl)
    | 3, _, hl => exact (Lit.int.inj (DataW.lit.inj (Option.some.inj hl))).2.symm.trans (by kernel_rfl)
    | 4, _, hl => exact (Lit.int.inj (DataW.lit.inj (Option.some.inj hl))).2.symm.trans (by kernel_rfl)
    | 5, _, hl => exact (Lit.int.inj (DataW.lit.inj (Option.some.inj hl))).2.symm.trans (by kernel_rfl)
    | 6, _, hl => exact (Lit.int.inj (DataW.lit.inj (Option.some.inj hl))).2.symm.trans (by kernel_rfl)
    | 7, _, hl => exact (Lit.int.inj (DataW.lit.inj (Option.some.inj hl))).2.symm.trans (by kernel_rfl)
    | 8, _, hl => exact (Lit.int.inj (DataW.lit.inj (Option.some.inj hl))).2.symm.trans (by kernel_rfl)
    | 9, _, hl => exact (Lit.int.inj (DataW.lit.inj (Option.some.inj hl))).2.symm.trans (by kernel_rfl)
    | 10, _, hl => exact (Lit.int.inj (DataW.lit.inj (Option.some.inj hl))).2.symm.trans (by kernel_rfl)
    | 11, _, hl => exact (Lit.int.inj (DataW.lit.inj (Option.some.inj hl))).2.symm.trans (by kernel_rfl)
    | 12, _, hl => exact (Lit.int.inj (DataW.lit.inj (Option.some.inj hl))).2.symm.trans (by kernel_rfl)
    | 13, _, hl => exact (Lit.int.inj (DataW.lit.inj (Option.some.inj hl))).2.symm.trans (by kernel_rfl)
    | 14, _, hl => exact (Lit.int.inj (DataW.lit.inj (Option.some.inj hl))).2.symm.trans (by kernel_rfl)
    | 15, _, hl => exact (Lit.int.inj (DataW.lit.inj (Option.some.inj hl))).2.symm.trans (by kernel_rfl)
    | i + 16, hi, _ => omega
  subst hk
  have hci : cs0[i]? = some (.int .u32 (nibs.getD i 0 : Nat)) := by
    have h9 : ((cs0.toList.drop (i * 1)).take 1)[0]? = (some (.int .u32 (nibs.getD i 0 : Nat)) : Option Value) := by rw [e1]; rfl
    rw [List.getElem?_take, if_pos (by decide), List.getElem?_drop] at h9
    simpa using h9
  rw [hci] at hcc
  exact hcc

set_option maxRecDepth 100000 in
theorem lifted (os : Os) (started : os.Started) (H : Type) (enc : TypeId × Value → H) :
    ReturnsInHanded {} Tryd.checked os 3 .any (fun w args => (Rows.manifestSwapsSpec.pre enc Tryd.prog Tryd.f3 [] false w args ∧ laidMetH Tryd.prog [("daybook/crc.nibbles", Rows.laid_daybook_crc_nibbles)] w) ∧ sizedMet enc Tryd.prog Tryd.f3 (OpenSpec.ofChange Rows.manifestSwapsSpec) false w args)
      (Rows.manifestSwapsSpec.post enc Tryd.prog Tryd.f3 false true false false) := by
  refine returnsInHanded_of_change_and (C := Tryd.checked) (X := fun w _ => laidMetH Tryd.prog [("daybook/crc.nibbles", Rows.laid_daybook_crc_nibbles)] w) (fun _ _ _ hh h => h.of_heap hh) own started (by kernel_rfl) Tryd.func3
    (ChangeSpec.witness_shaped (enc := enc) (C := Tryd.checked) (os := os) (X := fun w _ => laidMetH Tryd.prog [("daybook/crc.nibbles", Rows.laid_daybook_crc_nibbles)] w) false (World.doorLaid Tryd.prog 400 os) #[.agg #[.int .i64 0, .int .i64 0, .int .i64 0, .int .i64 0, .int .i64 0, .slice none 0 0], .agg #[.int .i64 0, .int .i64 0, .int .i64 0, .int .i64 0, .int .i64 0, .slice none 0 0], .int .i64 0, .slice none 0 0] 8 rfl (World.shaped_of_RefB (by kernel_rfl) (by kernel_rfl)) (by kernel_rfl) (by kernel_rfl) (by kernel_rfl) (door_met os _)) ?_
  intro W base args ds gs before hval0 hW hcnd hsz0 hL _
  have hval : ∀ (j : Nat) t v, Tryd.f3.params[j]? = some t → args[j]? = some v → Value.okWide Tryd.prog W .any base t v := hval0
  have hsz : (DataW.weightsEach Tryd.prog (Tryd.f3.params.toList ++ Rows.manifestSwapsSpec.plain.varTypes Tryd.prog) (ds ++ gs)).all (· ≤ reachBytes) = true := hsz0
  have hW' := hW
  obtain ⟨p, q, hA0, hV, rfl, hfz, hnd⟩ := hW
  have hA : DataW.TrodAll enc Tryd.prog W 0 (fun _ => true) true Tryd.f3.params.toList args.toList ds p := hA0
  rw [Tryd.params3] at hA hval hsz
  obtain ⟨v0, vs0, d0, ds0, p0, q0, hargs, rfl, rfl, h0, r0⟩ := trodAll_cons hA
  obtain ⟨v1, vs1, d1, ds1, p1, q1, rfl, rfl, rfl, h1, r1⟩ := trodAll_cons r0
  obtain ⟨v2, vs2, d2, ds2, p2, q2, rfl, rfl, rfl, h2, r2⟩ := trodAll_cons r1
  obtain ⟨v3, vs3, d3, ds3, p3, q3, rfl, rfl, rfl, h3, r3⟩ := trodAll_cons r2
  obtain ⟨rfl, rfl, rfl⟩ := trodAll_nil r3
  obtain rfl : args = #[v0, v1, v2, v3] := by cases args; simp_all
  obtain ⟨rfl, rfl⟩ := trodVars_none hV
  obtain ⟨cs0, rfl⟩ := okWide_ag Tryd.underlying24 (hval 0 24 v0 rfl rfl)
  have k0 := h0
  have lt0 : ∀ x ∈ p0, x.block < W.heap.size := by obtain ⟨m, hm⟩ := k0; exact DataW.trod_lt m _ _ _ hm
  obtain ⟨z0, a0, c0, hcs0, y0_0, y0_1⟩ : ∃ s A c, cs0 = mfcells s A c ∧ SgRd W A s.segs ∧ MfWf s := by
    obtain ⟨fuel, hf⟩ := h0
    obtain ⟨s, A, c, he, r⟩ := open_mf hf (msz_of hsz (j := 0) rfl rfl)
    exact ⟨s, A, c, Array.toList_inj.1 he, r⟩
  subst hcs0
  obtain ⟨cs1, rfl⟩ := okWide_ag Tryd.underlying24 (hval 1 24 v1 rfl rfl)
  have k1 := h1
  have lt1 : ∀ x ∈ p1, x.block < W.heap.size := by obtain ⟨m, hm⟩ := k1; exact DataW.trod_lt m _ _ _ hm
  obtain ⟨z1, a1, c1, hcs1, y1_0, y1_1⟩ : ∃ s A c, cs1 = mfcells s A c ∧ SgRd W A s.segs ∧ MfWf s := by
    obtain ⟨fuel, hf⟩ := h1
    obtain ⟨s, A, c, he, r⟩ := open_mf hf (msz_of hsz (j := 1) rfl rfl)
    exact ⟨s, A, c, Array.toList_inj.1 he, r⟩
  subst hcs1
  obtain ⟨a2, rfl, rfl, rfl, w2⟩ := open_int Tryd.underlying3 (hval 2 3 v2 rfl rfl) h2
  have e2 := i64_of w2
  obtain ⟨a3, len3, cap3, rfl⟩ := okWide_slice Tryd.underlying25 (hval 3 25 v3 rfl rfl)
  have k3 := h3
  have lt3 : ∀ x ∈ p3, x.block < W.heap.size := by obtain ⟨m, hm⟩ := k3; exact DataW.trod_lt m _ _ _ hm
  obtain ⟨z3, hl3, ha3, hc3, y3_0, y3_1, y3_2⟩ : ∃ g : HI, len3 = g.1.length ∧ a3 = g.2.1 ∧ cap3 = g.2.2 ∧ Rd W g.2.1 g.1.length (ints g.1) ∧ g.1.length * 8 ≤ 140737488351232 ∧ ∀ x ∈ g.1, IsI64 x := by
    obtain ⟨fuel, hf⟩ := h3
    obtain ⟨g, he, r⟩ := open_intl hf (sz_of hsz (j := 3) rfl rfl)
    have he : [Value.slice a3 len3 cap3] = _ := he
    injection he with he _
    injection he with e1 e2 e3
    exact ⟨g, e2, e1, e3, r⟩
  subst hl3 ha3 hc3
  clear hA0 hval0
  refine (manifestSwaps_walk z0 z1 a0 a1 c0 c1 a2 z3.2.1 z3.1.length z3.2.2 z3.1 W (nib_of hL) y0_0 y0_1 y1_0 y1_1 e2 y3_0 y3_1 y3_2).mono fun e W' ⟨he, bel⟩ => ?_
  subst he
  exact ⟨_, rfl, _, _, _, [], _, [], hW', trodAll_mk1 (shut_bool Tryd.underlying4 _), (trodAll_cons_mk (Below.trod laidOut (by kernel_rfl) (of_decide_eq_true (by kernel_rfl)) k0 bel lt0) (trodAll_cons_mk (Below.trod laidOut (by kernel_rfl) (of_decide_eq_true (by kernel_rfl)) k1 bel lt1) (trodAll_cons_mk (shut_int Tryd.underlying3 w2) (trodAll_cons_mk (Below.trod laidOut (by kernel_rfl) (of_decide_eq_true (by kernel_rfl)) k3 bel lt3) trodAll_mk0)))), rfl, bel.frame _, fun h => by cases h⟩

theorem row_proved : Rows.ManifestSwapsSaid :=
  OpenClaim.holds_of_wide 3 Tryd.f3 rfl rfl rfl rfl rfl rfl rfl ⟨rfl, rfl, rfl, rfl, rfl⟩ rfl rfl rfl rfl rfl (by kernel_rfl) Tryd.func3 (by kernel_rfl)
    (of_decide_eq_true (by kernel_rfl)) (by unfold Func.isWrapper; first | (rw [if_pos (by decide +kernel)]; kernel_rfl) | (rw [if_neg (by decide +kernel)]; exact ⟨rfl, rfl⟩))
    (fun os started H enc _ => lifted os started H enc)
theorem proved : Rows.ManifestSwapsCardSaid :=
  Claim7.holds_tied_plain_at .later [] [.data] true Rows.manifestSwapsCard.stood.harness false
    row_proved (fun _ h => by cases h) (by kernel_rfl) (fun _ h => by cases h) manifestSwaps_row_tie rfl ⟨rfl, rfl⟩ (by kernel_rfl) rfl
    (fun f fn hf hfn => by
      obtain rfl : f = 3 := Option.some.inj ((show Tryd.prog.funcNamed "daybook/daybooklaw16.ManifestSwaps" = some 3 by kernel_rfl).symm.trans hf) |>.symm
      obtain rfl : fn = Tryd.f3 := (Option.some.inj (Tryd.func3.symm.trans hfn)).symm
      exact ⟨by kernel_rfl, fun j t ht => by
        rw [Tryd.params3] at ht
        have hm : t ∈ [24, 24, 3, 25] := by simpa using Array.mem_of_getElem? ht
        have hall : ([24, 24, 3, 25].all fun u => !Tryd.prog.wantsStandIn u) = true := by kernel_rfl
        exact (show Tryd.prog.wantsStandIn t = false by simpa using List.all_eq_true.1 hall t hm)⟩)
    (by kernel_rfl)
end Go.Proofs.YtdoaniimfhpjhaaDoor.manifestSwaps
