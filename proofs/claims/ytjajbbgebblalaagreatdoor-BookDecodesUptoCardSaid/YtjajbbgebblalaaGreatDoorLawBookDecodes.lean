/-
  'BookDecodes' as the given card says it, where what it reads is of bulk at most 1,048,576: it returns true, and each argument reads behind the call as it read before; the table of the check sum is tied to the program's text. The walk lies in BkLb.
-/
import Derived.Test.YtjajbbgebblalaaGreatDoorRows
import Derived.Test.YtjajbbgebblalaaGreatDoorCards
import Derived.Test.YtjajbbgebblalaaGreatDoorTie
import Derived.Test.YtjajbbgebblalaaGreatDoorBkLb
import Derived.Test.YtjajbbgebblalaaGreatDoorOpenO
import Derived.ProofKit
import Derived.OpenShut
import Derived.ShutString
import Derived.ChangeOld
import Derived.SizedLaws
import Derived.LaidMore
import Derived.Stop.Joined
import Derived.SevenTiedAt
import Derived.Deep.DeepHandedRow
namespace Go.Proofs.YtjajbbgebblalaaGreatDoor.bookDecodes
open Go.ChangeShapes Go.WideShapes Go.ChangeAt Go.RowKit
open Go.ChangeMaps (open_string shut_string)
set_option linter.unusedVariables false
set_option linter.unusedSimpArgs false

theorem own : ownKnob Tryz.prog.godebug = none := by kernel_rfl
theorem laidOut : laidOutB Tryz.prog = true := by kernel_rfl
theorem gNib : Tryz.prog.globalNamed "daybook/crc.nibbles" = some 0 := by kernel_rfl
theorem tNib : (Tryz.prog.globals[0]?).map (·.type) = some 325 := by kernel_rfl
theorem door_met (os : Os) (args : Array Value) : laidMetH Tryz.prog [("daybook/crc.nibbles", Rows.laid_daybook_crc_nibbles)] ((World.doorLaid Tryz.prog 400 os).forCall (fun _ _ => 0) ⟨#[], args, []⟩).memory := by
  rw [MakeChecks.laidMetH_plain _ _ _ (by kernel_rfl)]
  exact laidMet_of_run' 8 (by kernel_rfl) (by kernel_rfl)
set_option maxRecDepth 100000 in
theorem nib_of {W : World} (h : laidMetH Tryz.prog [("daybook/crc.nibbles", Rows.laid_daybook_crc_nibbles)] W) : Nib W := by
  rw [MakeChecks.laidMetH_plain _ _ _ (by kernel_rfl)] at h
  obtain ⟨ps, ⟨g0, t0, cs0, f0, p0, q0, hg0, ht0, hv0, hd0, _⟩, _⟩ := h
  obtain rfl := Option.some.inj (gNib.symm.trans hg0)
  obtain rfl := Option.some.inj (tNib.symm.trans ht0)
  obtain ⟨xs, m1, rfl, hx1, hlen, hn3, hel⟩ := DataW.trod_array Tryz.underlying325 hd0
  have c3 : Tryz.prog.cellsOf 87 = 1 := by kernel_rfl
  intro i hi
  have hcc := World.var?_cell hg0 hv0 i
  have hz := hel i hi
  rw [c3] at hz
  simp only [Rows.laid_daybook_crc_nibbles, Prod.mk.injEq, DataW.agg.injEq] at hx1
  obtain ⟨x, hx⟩ : ∃ x, xs[i]? = some x := ⟨xs[i]'(by omega), List.getElem?_eq_getElem (by omega)⟩
  rw [hx] at hz
  obtain ⟨k, e1, e2, _⟩ := DataW.trod_int Tryz.underlying87 hz
  have hl : (xs.map (·.1))[i]? = some (.lit (.int .u32 k)) := by rw [List.getElem?_map, hx, e2]; rfl
  have hk : k = (nibs.getD i 0 : Nat) := by
    rw [← hx1.1] at hl
    match i, hi, hl with
    | 0, _, hl => exact (Lit.int.inj (DataW.lit.inj (Option.some.inj hl))).2.symm.trans (by kernel_rfl)
    | 1, _, hl => exact (Lit.int.inj (DataW.lit.inj (Option.some.inj hl))).2.symm.trans (by kernel_rfl)
    | 2, _, hl => exact (Lit.int.inj (DataW.lit.inj (Option.some.inj hl))).2.symm.trans (by kernel_rfl)
    | 3, _, hl => exact (Lit.int.inj (DataW.lit.inj (Option.some.inj hl))).2.symm.trans (by kernel_rfl)
    | 4, _, hl => exact (Lit.int.inj (DataW.lit.inj (Option.some.inj hl))).2.symm.trans (by kernel_rfl)
    | 5, _, hl => exact (Lit.int.inj (DataW.lit.inj (Option.some.inj hl))).2.symm.trans (by kernel_rfl)
    | 6, _, hl => exact (Lit.int.inj (DataW.lit.inj (Option.some.inj hl))).2.symm.trans (by kernel_rfl)
    | 7, _, hl => exact (Lit.int.inj (DataW.lit.inj (Option.some.inj hl))).2.symm.trans (by kernel_rfl)
    | 8, _, hl => exact (Lit.int.inj (DataW.lit.inj (Option.some.inj hl))).2.symm.trans (by kernel_rfl)
    | 9, _, hl => exact (Lit.int.inj (DataW.lit.inj (Option.some.inj hl))).2.symm.trans (by kernel_rfl)
    | 10, _, hl => exact (Lit.int.inj (DataW.lit.inj (Option.some.inj hl))).2.symm.trans (by kernel_rfl)
    | 11, _, hl => exact (Lit.int.inj (DataW.lit.inj (Option.some.inj hl))).2.symm.trans (by kernel_rfl)
    | 12, _, hl => exact (Lit.int.inj (DataW.lit.inj (Option.some.inj hl))).2.symm.trans (by kernel_rfl)
    | 13, _, hl => exact (Lit.int.inj (DataW.lit.inj (Option.some.inj hl))).2.symm.trans (by kernel_rfl)
    | 14, _, hl => exact (Lit.int.inj (DataW.lit.inj (Option.some.inj hl))).2.symm.trans (by kernel_rfl)
    | 15, _, hl => exact (Lit.int.inj (DataW.lit.inj (Option.some.inj hl))).2.symm.trans (by kernel_rfl)
    | i + 16, hi, _ => omega
  subst hk
  have hci : cs0[i]? = some (.int .u32 (nibs.getD i 0 : Nat)) := by
    have h9 : ((cs0.toList.drop (i * 1)).take 1)[0]? = (some (.int .u32 (nibs.getD i 0 : Nat)) : Option Value) := by rw [e1]; rfl
    rw [List.getElem?_take, if_pos (by decide), List.getElem?_drop] at h9
    simpa using h9
  rw [hci] at hcc
  exact hcc

set_option maxRecDepth 100000 in
theorem contract (H : Type) (enc : TypeId × Value → H) (W : World) (base : Nat) (args : Array Value) (ds gs : List (DataW H)) (before : List MemPlace)
    (hval0 : ∀ (j : Nat) t v, Tryz.f5.params[j]? = some t → args[j]? = some v → Value.okWide Tryz.prog W .any base t v)
    (hW : DataW.Whole enc Tryz.prog Tryz.f5.params.toList Rows.bookDecodesSpec.vars false W args.toList ds gs before) (hk : Rows.uptoSmall H (ds ++ gs) = true)
    (hsz0 : (DataW.weightsEach Tryz.prog (Tryz.f5.params.toList ++ Rows.bookDecodesSpec.plain.varTypes Tryz.prog) (ds ++ gs)).all (· ≤ reachBytes) = true) (hL : laidMetH Tryz.prog [("daybook/crc.nibbles", Rows.laid_daybook_crc_nibbles)] W) :
    Calls Tryz.prog 5 args W fun e W' => ∃ v, e = .returned v ∧ Rows.bookDecodesSpec.post enc Tryz.prog Tryz.f5 false true false false W args v W' := by
  have hval : ∀ (j : Nat) t v, Tryz.f5.params[j]? = some t → args[j]? = some v → Value.okWide Tryz.prog W .any base t v := hval0
  have hsz : (DataW.weightsEach Tryz.prog (Tryz.f5.params.toList ++ Rows.bookDecodesSpec.plain.varTypes Tryz.prog) (ds ++ gs)).all (· ≤ reachBytes) = true := hsz0
  have hW' := hW
  obtain ⟨p, q, hA0, hV, rfl, hfz, hnd⟩ := hW
  have hA : DataW.TrodAll enc Tryz.prog W 0 (fun _ => true) true Tryz.f5.params.toList args.toList ds p := hA0
  rw [Tryz.params5] at hA hval hsz
  obtain ⟨v0, vs0, d0, ds0, p0, q0, hargs, rfl, rfl, h0, r0⟩ := trodAll_cons hA
  obtain ⟨rfl, rfl, rfl⟩ := trodAll_nil r0
  obtain rfl : args = #[v0] := by cases args; simp_all
  obtain ⟨rfl, rfl⟩ := trodVars_none hV
  obtain ⟨a0, len0, cap0, rfl⟩ := okWide_slice Tryz.underlying36 (hval 0 36 v0 rfl rfl)
  have k0 := h0
  have lt0 : ∀ x ∈ p0, x.block < W.heap.size := by obtain ⟨m, hm⟩ := k0; exact DataW.trod_lt m _ _ _ hm
  obtain ⟨z0, y0_0, y0_1, y0_2⟩ : ∃ l, Rd W a0 len0 (u8s l) ∧ len0 ≤ cap0 ∧ len0 ≤ 1048576 := by
    obtain ⟨fuel, hf⟩ := h0
    have hb := bulk_arg hk (j := 0) Tryz.underlying36 hf rfl
    obtain ⟨A, n, c, l, he, r⟩ := open_bytes (v := .slice a0 len0 cap0) hf (sz_of hsz (j := 0) rfl rfl)
    injection he with e1 e2 e3
    subst e1 e2 e3
    exact ⟨l, r.1, r.2.1, hb⟩
  clear hA0 hval0
  refine (bookDecodes_walk a0 len0 cap0 z0 W (nib_of hL) y0_0 y0_1 y0_2).mono fun e W' ⟨he, bel⟩ => ?_
  subst he
  exact ⟨_, rfl, _, _, _, [], _, [], hW', trodAll_mk1 (shut_bool Tryz.underlying4 _), (trodAll_cons_mk (Below.trod laidOut (by kernel_rfl) (of_decide_eq_true (by kernel_rfl)) k0 bel lt0) trodAll_mk0), rfl, bel.frame _, fun h => by cases h⟩

theorem reads (os : Os) {H : Type} (enc : TypeId × Value → H) : ∃ places, DataW.whole enc Tryz.prog ((World.doorLaid Tryz.prog 400 os).forCall (fun _ _ => 0) ⟨#[], #[.slice none 0 0], []⟩).memory Tryz.f5.params.toList Rows.bookDecodesSpec.vars false (#[.slice none 0 0] : Array Value).toList 8 = some ([.nil], [], places) :=
  ⟨[], by kernel_rfl⟩
set_option maxRecDepth 100000 in
theorem lifted (os : Os) (started : os.Started) (H : Type) (enc : TypeId × Value → H) (F : Stop.Interp) :
    ReturnsInHanded {} Tryz.checked os 5 .any ((Rows.OpenSpec.upto Rows.bookDecodesSpec).preRow enc Tryz.prog Tryz.f5 Rows.bookDecodesUptoRow.domain false Rows.bookDecodesUptoRow.laid) (((Rows.OpenSpec.upto Rows.bookDecodesSpec).at F).post enc Tryz.prog Tryz.f5 false true false false) := by
  obtain ⟨places, hx⟩ := reads os enc
  have hok : Input.okWideB Tryz.prog ((World.doorLaid Tryz.prog 400 os).forCall (fun _ _ => 0) ⟨#[], #[.slice none 0 0], []⟩) 5 ⟨#[], #[.slice none 0 0], []⟩ = true := by kernel_rfl
  refine returnsInHanded_of_row (C := Tryz.checked) (s := Rows.OpenSpec.upto Rows.bookDecodesSpec) own started (by kernel_rfl) Tryz.func5
    ⟨World.doorLaid Tryz.prog 400 os, fun _ _ => 0, ⟨#[], #[.slice none 0 0], []⟩, rfl, World.shaped_of_RefB (by kernel_rfl) (by kernel_rfl), (Input.okWide_of_okWideB (base := 0) hok).1, (Input.okWide_of_okWideB hok).2,
      OpenSpec.preRow_of_cond 8 hx (by kernel_rfl) (fun k hk => by cases hk; kernel_rfl) (by kernel_rfl) (door_met os _), by simp only [Assume.holds]; exact ⟨by simp, by simp, fun _ => Modest.zero, by simp, by simp⟩⟩ ?_
  intro W base args ds gs before hval hW _ hcond hsz hL _ _
  exact contract H enc W base args ds gs before hval hW (hcond _ rfl) hsz hL

theorem row_proved : Rows.BookDecodesUptoSaid :=
  OpenClaim.holds_of_cond 5 Tryz.f5 rfl rfl rfl rfl rfl rfl rfl ⟨rfl, rfl, rfl, rfl, rfl⟩ rfl rfl rfl rfl rfl (by kernel_rfl) Tryz.func5 (by kernel_rfl)
    (of_decide_eq_true (by kernel_rfl)) (by unfold Func.isWrapper; first | (rw [if_pos (by decide +kernel)]; kernel_rfl) | (rw [if_neg (by decide +kernel)]; exact ⟨rfl, rfl⟩))
    (fun os started H enc _ F => by rw [OpenClaim.pre_eq_preRow]; exact lifted os started H enc F)
theorem proved : Rows.BookDecodesUptoCardSaid :=
  Claim7.holds_tied_plain_at .later [] [.data] true Rows.bookDecodesUptoCard.stood.harness true
    row_proved (fun _ h => by cases h) (by kernel_rfl) (fun _ h => by cases h) bookDecodesUpto_row_tie rfl ⟨rfl, rfl⟩ (by kernel_rfl) rfl
    (fun f fn hf hfn => by
      obtain rfl : f = 5 := Option.some.inj ((show Tryz.prog.funcNamed "daybook/daybooklaw17.BookDecodes" = some 5 by kernel_rfl).symm.trans hf) |>.symm
      obtain rfl : fn = Tryz.f5 := (Option.some.inj (Tryz.func5.symm.trans hfn)).symm
      exact ⟨by kernel_rfl, fun j t ht => by
        rw [Tryz.params5] at ht
        have hm : t ∈ [36] := by simpa using Array.mem_of_getElem? ht
        have hall : ([36].all fun u => !Tryz.prog.wantsStandIn u) = true := by kernel_rfl
        exact (show Tryz.prog.wantsStandIn t = false by simpa using List.all_eq_true.1 hall t hm)⟩)
    (by kernel_rfl)
end Go.Proofs.YtjajbbgebblalaaGreatDoor.bookDecodes
