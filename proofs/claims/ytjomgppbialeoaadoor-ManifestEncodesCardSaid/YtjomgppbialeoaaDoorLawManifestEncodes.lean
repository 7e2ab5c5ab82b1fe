/-
  'ManifestEncodes' as the given card says it, for every input: it returns true, and each argument reads behind the call as it read before; the table of the check sum is tied to the program's text. No condition. The walk lies in ManLa.
-/
import Derived.Test.YtjomgppbialeoaaDoorRows
import Derived.Test.YtjomgppbialeoaaDoorCards
import Derived.Test.YtjomgppbialeoaaDoorTie
import Derived.Test.YtjomgppbialeoaaDoorManLa
import Derived.Test.YtjomgppbialeoaaDoorOpenW
import Derived.ProofKit
import Derived.OpenShut
import Derived.ShutString
import Derived.ChangeOld
import Derived.SizedLaws
import Derived.LaidMore
import Derived.Stop.Joined
import Derived.SevenTiedAt
namespace Go.Proofs.YtjomgppbialeoaaDoor.manifestEncodes
open Go.ChangeShapes Go.WideShapes Go.ChangeAt Go.RowKit
open Go.ChangeMaps (open_string shut_string)
set_option linter.unusedVariables false
set_option linter.unusedSimpArgs false

theorem own : ownKnob Tryd.prog.godebug = none := by kernel_rfl
theorem laidOut : laidOutB Tryd.prog = true := by kernel_rfl
theorem gNib : Tryd.prog.globalNamed "daybook/crc.nibbles" = some 0 := by kernel_rfl
theorem tNib : (Tryd.prog.globals[0]?).map (·.type) = some 88 := by kernel_rfl
theorem door_met (os : Os) (args : Array Value) : laidMetH Tryd.prog [("daybook/crc.nibbles", Rows.laid_daybook_crc_nibbles)] ((World.doorLaid Tryd.prog 400 os).forCall (fun _ _ => 0) ⟨#[], args, []⟩).memory := by
  rw [MakeChecks.laidMetH_plain _ _ _ (by kernel_rfl)]
  exact laidMet_of_run' 8 (by kernel_rfl) (by kernel_rfl)
set_option maxRecDepth 100000 in
theorem nib_of {W : World} (h : laidMetH Tryd.prog [("daybook/crc.nibbles", Rows.laid_daybook_crc_nibbles)] W) : Nib W := by
  rw [MakeChecks.laidMetH_plain _ _ _ (by kernel_rfl)] at h
  obtain ⟨ps, ⟨g0, t0, cs0, f0, p0, q0, hg0, ht0, hv0, hd0, _⟩, _⟩ := h
  obtain rfl := Option.some.inj (gNib.symm.trans hg0)
  obtain rfl := Option.some.inj (tNib.symm.trans ht0)
  obtain ⟨xs, m1, rfl, hx1, hlen, hn3, hel⟩ := DataW.trod_array Tryd.underlying88 hd0
  have c3 : Tryd.prog.cellsOf 69 = 1 := by kernel_rfl
  intro i hi
  have hcc := World.var?_cell hg0 hv0 i
  have hz := hel i hi
  rw [c3] at hz
  simp only [Rows.laid_daybook_crc_nibbles, Prod.mk.injEq, DataW.agg.injEq] at hx1
  obtain ⟨x, hx⟩ : ∃ x, xs[i]? = some x := ⟨xs[i]'(by omega), List.getElem?_eq_getElem (by omega)⟩
  rw [hx] at hz
  obtain ⟨k, e1, e2, _⟩ := DataW.trod_int Tryd.underlying69 hz
  have hl : (xs.map (·.1))[i]? = some (.lit (.int .u32 k)) := by rw [List.getElem?_map, hx, e2]; rfl
  have hk : k = (nibs.getD i 0 : Nat) := by
    rw [← hx1.1] at hl
    match i, hi, hl with
    | 0, _, hl => exact (Lit.int.inj (DataW.lit.inj (Option.some.inj hl))).2.symm.trans (by kernel_rfl)
    | 1, _, hl => exact (Lit.int.inj (DataW.lit.inj (Option.some.inj hl))).2.symm.trans (by kernel_rfl)
    | 2, _, hl => exact (Lit.int.inj (DataW.lit.inj (Option.some.inj hl))).2.symm.trans (by kernel_rfl)
    | 3, _, hl => exact (Lit.int.inj (DataW.lit.inj (Option.some.inj hl))).2.symm.trans (by kernel_rfl)
    | 4, _, hl => exact (Lit.int.inj (DataW.lit.inj (Option.some.inj hl))).2.symm.trans (by kernel_rfl)
    | 5, _, hl => exact (Lit.int.inj (DataW.lit.inj (Option.some.inj hl))).2.symm.trans (by kernel_rfl)
    | 6, _, hl => exact (Lit.int.inj (DataW.lit.inj (Option.some.inj hl))).2.symm.trans (by kernel_rfl)
    | 7, _, hl => exact (Lit.int.inj (DataW.lit.inj (Option.some.inj hl))).2.symm.trans (by kernel_rfl)
    | 8, _, hl => exact (Lit.int.inj (DataW.lit.inj (Option.some.inj hl))).2.symm.trans (by kernel_rfl)
    | 9, _, hl => exact (Lit.int.inj (DataW.lit.inj (Option.some.inj hl))).2.symm.trans (by kernel_rfl)
    | 10, _, hl => exact (Lit.int.inj (DataW.lit.inj (Option.some.inj hl))).2.symm.trans (by kernel_rfl)
    | 11, _, hl => exact (Lit.int.inj (DataW.lit.inj (Option.some.inj hl))).2.symm.trans (by kernel_rfl)
    | 12, _, hl => exact (Lit.int.inj (DataW.lit.inj (Option.some.inj hl))).2.symm.trans (by kernel_rfl)
    | 13, _, hl => exact (Lit.int.inj (DataW.lit.inj (Option.some.inj hl))).2.symm.trans (by kernel_rfl)
    | 14, _, hl => exact (Lit.int.inj (DataW.lit.inj (Option.some.inj hl))).2.symm.trans (by kernel_rfl)
    | 15, _, hl => exact (Lit.int.inj (DataW.lit.inj (Option.some.inj hl))).2.symm.trans (by kernel_rfl)
    | i + 16, hi, _ => omega
  subst hk
  have hci : cs0[i]? = some (.int .u32 (nibs.getD i 0 : Nat)) := by
    have h9 : ((cs0.toList.drop (i * 1)).take 1)[0]? = (some (.int .u32 (nibs.getD i 0 : Nat)) : Option Value) := by rw [e1]; rfl
    rw [List.getElem?_take, if_pos (by decide), List.getElem?_drop] at h9
    simpa using h9
  rw [hci] at hcc
  exact hcc

set_option maxRecDepth 100000 in
theorem lifted (os : Os) (started : os.Started) (H : Type) (enc : TypeId × Value → H) :
    ReturnsInHanded {} Tryd.checked os 3 .any (fun w args => (Rows.manifestEncodesSpec.pre enc Tryd.prog Tryd.f3 [] false w args ∧ laidMetH Tryd.prog [("daybook/crc.nibbles", Rows.laid_daybook_crc_nibbles)] w) ∧ sizedMet enc Tryd.prog Tryd.f3 (OpenSpec.ofChange Rows.manifestEncodesSpec) false w args)
      (Rows.manifestEncodesSpec.post enc Tryd.prog Tryd.f3 false true false false) := by
  refine returnsInHanded_of_change_and (C := Tryd.checked) (X := fun w _ => laidMetH Tryd.prog [("daybook/crc.nibbles", Rows.laid_daybook_crc_nibbles)] w) (fun _ _ _ hh h => h.of_heap hh) own started (by kernel_rfl) Tryd.func3
    (ChangeSpec.witness_shaped (enc := enc) (C := Tryd.checked) (os := os) (X := fun w _ => laidMetH Tryd.prog [("daybook/crc.nibbles", Rows.laid_daybook_crc_nibbles)] w) false (World.doorLaid Tryd.prog 400 os) #[.agg #[.int .i64 0, .int .i64 0, .int .i64 0, .int .i64 0, .int .i64 0, .slice none 0 0]] 8 rfl (World.shaped_of_RefB (by kernel_rfl) (by kernel_rfl)) (by kernel_rfl) (by kernel_rfl) (by kernel_rfl) (door_met os _)) ?_
  intro W base args ds gs before hval0 hW hcnd hsz0 hL _
  have hval : ∀ (j : Nat) t v, Tryd.f3.params[j]? = some t → args[j]? = some v → Value.okWide Tryd.prog W .any base t v := hval0
  have hsz : (DataW.weightsEach Tryd.prog (Tryd.f3.params.toList ++ Rows.manifestEncodesSpec.plain.varTypes Tryd.prog) (ds ++ gs)).all (· ≤ reachBytes) = true := hsz0
  have hW' := hW
  obtain ⟨p, q, hA0, hV, rfl, hfz, hnd⟩ := hW
  have hA : DataW.TrodAll enc Tryd.prog W 0 (fun _ => true) true Tryd.f3.params.toList args.toList ds p := hA0
  rw [Tryd.params3] at hA hval hsz
  obtain ⟨v0, vs0, d0, ds0, p0, q0, hargs, rfl, rfl, h0, r0⟩ := trodAll_cons hA
  obtain ⟨rfl, rfl, rfl⟩ := trodAll_nil r0
  obtain rfl : args = #[v0] := by cases args; simp_all
  obtain ⟨rfl, rfl⟩ := trodVars_none hV
  obtain ⟨cs0, rfl⟩ := okWide_ag Tryd.underlying24 (hval 0 24 v0 rfl rfl)
  have k0 := h0
  have lt0 : ∀ x ∈ p0, x.block < W.heap.size := by obtain ⟨m, hm⟩ := k0; exact DataW.trod_lt m _ _ _ hm
  obtain ⟨z0, a0, c0, hcs0, y0_0, y0_1⟩ : ∃ s A c, cs0 = mfcells s A c ∧ SgRd W A s.segs ∧ MfWf s := by
    obtain ⟨fuel, hf⟩ := h0
    obtain ⟨s, A, c, he, r⟩ := open_mf hf (msz_of hsz (j := 0) rfl rfl)
    exact ⟨s, A, c, Array.toList_inj.1 he, r⟩
  subst hcs0
  clear hA0 hval0
  refine (manifestEncodes_walk z0 a0 c0 W (nib_of hL) y0_0 y0_1).mono fun e W' ⟨he, bel⟩ => ?_
  subst he
  exact ⟨_, rfl, _, _, _, [], _, [], hW', trodAll_mk1 (shut_bool Tryd.underlying4 _), (trodAll_cons_mk (Below.trod laidOut (by kernel_rfl) (of_decide_eq_true (by kernel_rfl)) k0 bel lt0) trodAll_mk0), rfl, bel.frame _, fun h => by cases h⟩

theorem row_proved : Rows.ManifestEncodesSaid :=
  OpenClaim.holds_of_wide 3 Tryd.f3 rfl rfl rfl rfl rfl rfl rfl ⟨rfl, rfl, rfl, rfl, rfl⟩ rfl rfl rfl rfl rfl (by kernel_rfl) Tryd.func3 (by kernel_rfl)
    (of_decide_eq_true (by kernel_rfl)) (by unfold Func.isWrapper; first | (rw [if_pos (by decide +kernel)]; kernel_rfl) | (rw [if_neg (by decide +kernel)]; exact ⟨rfl, rfl⟩))
    (fun os started H enc _ => lifted os started H enc)
theorem proved : Rows.ManifestEncodesCardSaid :=
  Claim7.holds_tied_plain_at .later [] [.data] true Rows.manifestEncodesCard.stood.harness false
    row_proved (fun _ h => by cases h) (by kernel_rfl) (fun _ h => by cases h) manifestEncodes_row_tie rfl ⟨rfl, rfl⟩ (by kernel_rfl) rfl
    (fun f fn hf hfn => by
      obtain rfl : f = 3 := Option.some.inj ((show Tryd.prog.funcNamed "daybook/daybooklaw16.ManifestEncodes" = some 3 by kernel_rfl).symm.trans hf) |>.symm
      obtain rfl : fn = Tryd.f3 := (Option.some.inj (Tryd.func3.symm.trans hfn)).symm
      exact ⟨by kernel_rfl, fun j t ht => by
        rw [Tryd.params3] at ht
        have hm : t ∈ [24] := by simpa using Array.mem_of_getElem? ht
        have hall : ([24].all fun u => !Tryd.prog.wantsStandIn u) = true := by kernel_rfl
        exact (show Tryd.prog.wantsStandIn t = false by simpa using List.all_eq_true.1 hall t hm)⟩)
    (by kernel_rfl)
end Go.Proofs.YtjomgppbialeoaaDoor.manifestEncodes
