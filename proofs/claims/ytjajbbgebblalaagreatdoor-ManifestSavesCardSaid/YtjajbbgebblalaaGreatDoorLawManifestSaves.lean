/-
  'ManifestSaves' as the given card says it, for every input: it returns true, and each argument reads behind the call as it read before; the table of the check sum is tied to the program's text. No condition. The walk lies in SvB.
-/
import Derived.Test.YtjajbbgebblalaaGreatDoorRows
import Derived.Test.YtjajbbgebblalaaGreatDoorCards
import Derived.Test.YtjajbbgebblalaaGreatDoorTie
import Derived.Test.YtjajbbgebblalaaGreatDoorSvA
import Derived.Test.YtjajbbgebblalaaGreatDoorOpA
import Derived.ProofKit
import Derived.OpenShut
import Derived.ShutString
import Derived.ChangeOld
import Derived.SizedLaws
import Derived.LaidMore
import Derived.Stop.Joined
import Derived.SevenTiedAt
namespace Go.Proofs.YtjajbbgebblalaaGreatDoor.manifestSaves
open Go.ChangeShapes Go.WideShapes Go.ChangeAt Go.RowKit
open Go.ChangeMaps (open_string shut_string)
set_option linter.unusedVariables false
set_option linter.unusedSimpArgs false

theorem own : ownKnob Tryz.prog.godebug = none := by kernel_rfl
theorem laidOut : laidOutB Tryz.prog = true := by kernel_rfl
theorem gNib : Tryz.prog.globalNamed "daybook/crc.nibbles" = some 0 := by kernel_rfl
theorem tNib : (Tryz.prog.globals[0]?).map (·.type) = some 325 := by kernel_rfl
theorem door_met (os : Os) (args : Array Value) : laidMetH Tryz.prog [("daybook/crc.nibbles", Rows.laid_daybook_crc_nibbles)] ((World.doorLaid Tryz.prog 400 os).forCall (fun _ _ => 0) ⟨#[], args, []⟩).memory := by
  rw [MakeChecks.laidMetH_plain _ _ _ (by kernel_rfl)]
  exact laidMet_of_run' 8 (by kernel_rfl) (by kernel_rfl)
set_option maxRecDepth 100000 in
theorem nib_of {W : World} (h : laidMetH Tryz.prog [("daybook/crc.nibbles", Rows.laid_daybook_crc_nibbles)] W) : Nib W := by
  rw [MakeChecks.laidMetH_plain _ _ _ (by kernel_rfl)] at h
  obtain ⟨ps, ⟨g0, t0, cs0, f0, p0, q0, hg0, ht0, hv0, hd0, _⟩, _⟩ := h
  obtain rfl := Option.some.inj (gNib.symm.trans hg0)
  obtain rfl := Option.some.inj (tNib.symm.trans ht0)
  obtain ⟨xs, m1, rfl, hx1, hlen, hn3, hel⟩ := DataW.trod_array Tryz.underlying325 hd0
  have c3 : Tryz.prog.cellsOf 87 = 1 := by kernel_rfl
  intro i hi
  have hcc := World.var?_cell hg0 hv0 i
  have hz := hel i hi
  rw [c3] at hz
  simp only [Rows.laid_daybook_crc_nibbles, Prod.mk.injEq, DataW.agg.injEq] at hx1
  obtain ⟨x, hx⟩ : ∃ x, xs[i]? = some x := ⟨xs[i]'(by omega), List.getElem?_eq_getElem (by omega)⟩
  rw [hx] at hz
  obtain ⟨k, e1, e2, _⟩ := DataW.trod_int Tryz.underlying87 hz
  have hl : (xs.map (·.1))[i]? = some (.lit (.int .u32 k)) := by rw [List.getElem?_map, hx, e2]; rfl
  have hk : k = (nibs.getD i 0 : Nat) := by
    rw [← hx1.1] at hl
    match i, hi, hl with
    | 0, _, hl => exact (Lit.int.inj (DataW.lit.inj (Option.some.inj hl))).2.symm.trans (by kernel_rfl)
    | 1, _, hl => exact (Lit.int.inj (DataW.lit.inj (Option.some.inj hl))).2.symm.trans (by kernel_rfl)
    | 2, _, hl => exact (Lit.int.inj (DataW.lit.inj (Option.some.inj hl))).2.symm.trans (by kernel_rfl)
    | 3, _, hl => exact (Lit.int.inj (DataW.lit.inj (Option.some.inj hl))).2.symm.trans (by kernel_rfl)
    | 4, _, hl => exact (Lit.int.inj (DataW.lit.inj (Option.some.inj hl))).2.symm.trans (by kernel_rfl)
    | 5, _, hl => exact (Lit.int.inj (DataW.lit.inj (Option.some.inj hl))).2.symm.trans (by kernel_rfl)
    | 6, _, hl => exact (Lit.int.inj (DataW.lit.inj (Option.some.inj hl))).2.symm.trans (by kernel_rfl)
    | 7, _, hl => exact (Lit.int.inj (DataW.lit.inj (Option.some.inj hl))).2.symm.trans (by kernel_rfl)
    | 8, _, hl => exact (Lit.int.inj (DataW.lit.inj (Option.some.inj hl))).2.symm.trans (by kernel_rfl)
    | 9, _, hl => exact (Lit.int.inj (DataW.lit.inj (Option.some.inj hl))).2.symm.trans (by kernel_rfl)
    | 10, _, hl => exact (Lit.int.inj (DataW.lit.inj (Option.some.inj hl))).2.symm.trans (by kernel_rfl)
    | 11, _, hl => exact (Lit.int.inj (DataW.lit.inj (Option.some.inj hl))).2.symm.trans (by kernel_rfl)
    | 12, _, hl => exact (Lit.int.inj (DataW.lit.inj (Option.some.inj hl))).2.symm.trans (by kernel_rfl)
    | 13, _, hl => exact (Lit.int.inj (DataW.lit.inj (Option.some.inj hl))).2.symm.trans (by kernel_rfl)
    | 14, _, hl => exact (Lit.int.inj (DataW.lit.inj (Option.some.inj hl))).2.symm.trans (by kernel_rfl)
    | 15, _, hl => exact (Lit.int.inj (DataW.lit.inj (Option.some.inj hl))).2.symm.trans (by kernel_rfl)
    | i + 16, hi, _ => omega
  subst hk
  have hci : cs0[i]? = some (.int .u32 (nibs.getD i 0 : Nat)) := by
    have h9 : ((cs0.toList.drop (i * 1)).take 1)[0]? = (some (.int .u32 (nibs.getD i 0 : Nat)) : Option Value) := by rw [e1]; rfl
    rw [List.getElem?_take, if_pos (by decide), List.getElem?_drop] at h9
    simpa using h9
  rw [hci] at hcc
  exact hcc

set_option maxRecDepth 100000 in
theorem lifted (os : Os) (started : os.Started) (H : Type) (enc : TypeId × Value → H) :
    ReturnsInHanded {} Tryz.checked os 3 .any (fun w args => (Rows.manifestSavesSpec.pre enc Tryz.prog Tryz.f3 [] false w args ∧ laidMetH Tryz.prog [("daybook/crc.nibbles", Rows.laid_daybook_crc_nibbles)] w) ∧ sizedMet enc Tryz.prog Tryz.f3 (OpenSpec.ofChange Rows.manifestSavesSpec) false w args)
      (Rows.manifestSavesSpec.post enc Tryz.prog Tryz.f3 false true false false) := by
  refine returnsInHanded_of_change_and (C := Tryz.checked) (X := fun w _ => laidMetH Tryz.prog [("daybook/crc.nibbles", Rows.laid_daybook_crc_nibbles)] w) (fun _ _ _ hh h => h.of_heap hh) own started (by kernel_rfl) Tryz.func3
    (ChangeSpec.witness_shaped (enc := enc) (C := Tryz.checked) (os := os) (X := fun w _ => laidMetH Tryz.prog [("daybook/crc.nibbles", Rows.laid_daybook_crc_nibbles)] w) false (World.doorLaid Tryz.prog 400 os) #[.int .i64 0, .slice none 0 0, .agg #[.int .i64 0, .int .i64 0, .int .i64 0, .int .i64 0, .int .i64 0, .slice none 0 0], .int .i64 0] 8 rfl (World.shaped_of_RefB (by kernel_rfl) (by kernel_rfl)) (by kernel_rfl) (by kernel_rfl) (by kernel_rfl) (door_met os _)) ?_
  intro W base args ds gs before hval0 hW hcnd hsz0 hL _
  have hval : ∀ (j : Nat) t v, Tryz.f3.params[j]? = some t → args[j]? = some v → Value.okWide Tryz.prog W .any base t v := hval0
  have hsz : (DataW.weightsEach Tryz.prog (Tryz.f3.params.toList ++ Rows.manifestSavesSpec.plain.varTypes Tryz.prog) (ds ++ gs)).all (· ≤ reachBytes) = true := hsz0
  have hW' := hW
  obtain ⟨p, q, hA0, hV, rfl, hfz, hnd⟩ := hW
  have hA : DataW.TrodAll enc Tryz.prog W 0 (fun _ => true) true Tryz.f3.params.toList args.toList ds p := hA0
  rw [Tryz.params3] at hA hval hsz
  obtain ⟨v0, vs0, d0, ds0, p0, q0, hargs, rfl, rfl, h0, r0⟩ := trodAll_cons hA
  obtain ⟨v1, vs1, d1, ds1, p1, q1, rfl, rfl, rfl, h1, r1⟩ := trodAll_cons r0
  obtain ⟨v2, vs2, d2, ds2, p2, q2, rfl, rfl, rfl, h2, r2⟩ := trodAll_cons r1
  obtain ⟨v3, vs3, d3, ds3, p3, q3, rfl, rfl, rfl, h3, r3⟩ := trodAll_cons r2
  obtain ⟨rfl, rfl, rfl⟩ := trodAll_nil r3
  obtain rfl : args = #[v0, v1, v2, v3] := by cases args; simp_all
  obtain ⟨rfl, rfl⟩ := trodVars_none hV
  obtain ⟨a0, rfl, rfl, rfl, w0⟩ := open_int Tryz.underlying3 (hval 0 3 v0 rfl rfl) h0
  have e0 := i64_of w0
  obtain ⟨a1, len1, cap1, rfl⟩ := okWide_slice Tryz.underlying22 (hval 1 22 v1 rfl rfl)
  have k1 := h1
  have lt1 : ∀ x ∈ p1, x.block < W.heap.size := by obtain ⟨m, hm⟩ := k1; exact DataW.trod_lt m _ _ _ hm
  obtain ⟨z1, hl1, y1_0, y1_1, y1_2⟩ : ∃ l : List HV, len1 = l.length ∧ FlRd W a1 l.length (l.map (·.1)) ∧ l.length * 48 ≤ 140737488351232 ∧ ∀ g ∈ l, g.1.data.length ≤ 140737488351232 ∧ IsI64 g.1.safe := by
    obtain ⟨fuel, hf⟩ := h1
    obtain ⟨A, c, l, he, r⟩ := open_files hf (sz_of hsz (j := 1) rfl rfl)
    injection he with e1 e2 e3
    subst e1 e2 e3
    exact ⟨l, rfl, r⟩
  subst hl1
  obtain ⟨cs2, rfl⟩ := okWide_ag Tryz.underlying25 (hval 2 25 v2 rfl rfl)
  have k2 := h2
  have lt2 : ∀ x ∈ p2, x.block < W.heap.size := by obtain ⟨m, hm⟩ := k2; exact DataW.trod_lt m _ _ _ hm
  obtain ⟨z2, a2, c2, hcs2, y2_0, y2_1⟩ : ∃ s A c, cs2 = mfcells s A c ∧ SgRd W A s.segs ∧ MfWf s := by
    obtain ⟨fuel, hf⟩ := h2
    obtain ⟨s, A, c, he, r⟩ := open_mf hf (msz_of hsz (j := 2) rfl rfl)
    exact ⟨s, A, c, Array.toList_inj.1 he, r⟩
  subst hcs2
  obtain ⟨a3, rfl, rfl, rfl, w3⟩ := open_int Tryz.underlying3 (hval 3 3 v3 rfl rfl) h3
  have e3 := i64_of w3
  clear hA0 hval0
  refine (manifestSaves_walk a0 a1 cap1 z1.length (z1.map (·.1)) z2 a2 c2 a3 W (nib_of hL) y1_0 (fun f h => by obtain ⟨g, hg, rfl⟩ := List.mem_map.1 h; exact y1_2 g hg) y1_1 y2_0 y2_1 e3).mono fun e W' ⟨he, bel⟩ => ?_
  subst he
  exact ⟨_, rfl, _, _, _, [], _, [], hW', trodAll_mk1 (shut_bool Tryz.underlying4 _), (trodAll_cons_mk (shut_int Tryz.underlying3 w0) (trodAll_cons_mk (Below.trod laidOut (by kernel_rfl) (of_decide_eq_true (by kernel_rfl)) k1 bel lt1) (trodAll_cons_mk (Below.trod laidOut (by kernel_rfl) (of_decide_eq_true (by kernel_rfl)) k2 bel lt2) (trodAll_cons_mk (shut_int Tryz.underlying3 w3) trodAll_mk0)))), rfl, bel.frame _, fun h => by cases h⟩

theorem row_proved : Rows.ManifestSavesSaid :=
  OpenClaim.holds_of_wide 3 Tryz.f3 rfl rfl rfl rfl rfl rfl rfl ⟨rfl, rfl, rfl, rfl, rfl⟩ rfl rfl rfl rfl rfl (by kernel_rfl) Tryz.func3 (by kernel_rfl)
    (of_decide_eq_true (by kernel_rfl)) (by unfold Func.isWrapper; first | (rw [if_pos (by decide +kernel)]; kernel_rfl) | (rw [if_neg (by decide +kernel)]; exact ⟨rfl, rfl⟩))
    (fun os started H enc _ => lifted os started H enc)
theorem proved : Rows.ManifestSavesCardSaid :=
  Claim7.holds_tied_plain_at .later [] [.data] true Rows.manifestSavesCard.stood.harness true
    row_proved (fun _ h => by cases h) (by kernel_rfl) (fun _ h => by cases h) manifestSaves_row_tie rfl ⟨rfl, rfl⟩ (by kernel_rfl) rfl
    (fun f fn hf hfn => by
      obtain rfl : f = 3 := Option.some.inj ((show Tryz.prog.funcNamed "daybook/daybooklaw16.ManifestSaves" = some 3 by kernel_rfl).symm.trans hf) |>.symm
      obtain rfl : fn = Tryz.f3 := (Option.some.inj (Tryz.func3.symm.trans hfn)).symm
      exact ⟨by kernel_rfl, fun j t ht => by
        rw [Tryz.params3] at ht
        have hm : t ∈ [3, 22, 25, 3] := by simpa using Array.mem_of_getElem? ht
        have hall : ([3, 22, 25, 3].all fun u => !Tryz.prog.wantsStandIn u) = true := by kernel_rfl
        exact (show Tryz.prog.wantsStandIn t = false by simpa using List.all_eq_true.1 hall t hm)⟩)
    (by kernel_rfl)
end Go.Proofs.YtjajbbgebblalaaGreatDoor.manifestSaves
