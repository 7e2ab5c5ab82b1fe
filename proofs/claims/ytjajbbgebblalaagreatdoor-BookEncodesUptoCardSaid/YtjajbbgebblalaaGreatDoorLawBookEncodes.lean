/-
  'BookEncodes' as the given card says it, where what it reads is of bulk at most 1,048,576: it returns true, and each argument reads behind the call as it read before; the table of the check sum is tied to the program's text. The walk lies in BkLa.
-/
import Derived.Test.YtjajbbgebblalaaGreatDoorRows
import Derived.Test.YtjajbbgebblalaaGreatDoorCards
import Derived.Test.YtjajbbgebblalaaGreatDoorTie
import Derived.Test.YtjajbbgebblalaaGreatDoorBkLa
import Derived.Test.YtjajbbgebblalaaGreatDoorOpenO
import Derived.ProofKit
import Derived.OpenShut
import Derived.ShutString
import Derived.ChangeOld
import Derived.SizedLaws
import Derived.LaidMore
import Derived.Stop.Joined
import Derived.SevenTiedAt
import Derived.Deep.DeepHandedRow
namespace Go.Proofs.YtjajbbgebblalaaGreatDoor.bookEncodes
open Go.ChangeShapes Go.WideShapes Go.ChangeAt Go.RowKit
open Go.ChangeMaps (open_string shut_string)
set_option linter.unusedVariables false
set_option linter.unusedSimpArgs false

theorem own : ownKnob Tryz.prog.godebug = none := by kernel_rfl
theorem laidOut : laidOutB Tryz.prog = true := by kernel_rfl
theorem gNib : Tryz.prog.globalNamed "daybook/crc.nibbles" = some 0 := by kernel_rfl
theorem tNib : (Tryz.prog.globals[0]?).map (·.type) = some 325 := by kernel_rfl
theorem door_met (os : Os) (args : Array Value) : laidMetH Tryz.prog [("daybook/crc.nibbles", Rows.laid_daybook_crc_nibbles)] ((World.doorLaid Tryz.prog 400 os).forCall (fun _ _ => 0) ⟨#[], args, []⟩).memory := by
  rw [MakeChecks.laidMetH_plain _ _ _ (by kernel_rfl)]
  exact laidMet_of_run' 8 (by kernel_rfl) (by kernel_rfl)
set_option maxRecDepth 100000 in
theorem nib_of {W : World} (h : laidMetH Tryz.prog [("daybook/crc.nibbles", Rows.laid_daybook_crc_nibbles)] W) : Nib W := by
  rw [MakeChecks.laidMetH_plain _ _ _ (by kernel_rfl)] at h
  obtain ⟨ps, ⟨g0, t0, cs0, f0, p0, q0, hg0, ht0, hv0, hd0, _⟩, _⟩ := h
  obtain rfl := Option.some.inj (gNib.symm.trans hg0)
  obtain rfl := Option.some.inj (tNib.symm.trans ht0)
  obtain ⟨xs, m1, rfl, hx1, hlen, hn3, hel⟩ := DataW.trod_array Tryz.underlying325 hd0
  have c3 : Tryz.prog.cellsOf 87 = 1 := by kernel_rfl
  intro i hi
  have hcc := World.var?_cell hg0 hv0 i
  have hz := hel i hi
  rw [c3] at hz
  simp only [Rows.laid_daybook_crc_nibbles, Prod.mk.injEq, DataW.agg.injEq] at hx1
  obtain ⟨x, hx⟩ : ∃ x, xs[i]? = some x := ⟨xs[i]'(by omega), List.getElem?_eq_getElem (by omega)⟩
  rw [hx] at hz
  obtain ⟨k, e1, e2, _⟩ := DataW.trod_int Tryz.underlying87 hz
  have hl : (xs.map (·.1))[i]? = some (.lit (.int .u32 k)) := by rw [List.getElem?_map, hx, e2]; rfl
  have hk : k = (nibs.getD i 0 : Nat) := by
    rw [← hx1.1] at hl
    match i, hi, hl with
    | 0, _, hl => exact (Lit.int.inj (DataW.lit.inj (Option.some.inj hl))).2.symm.trans (by kernel_rfl)
    | 1, _, hl => exact (Lit.int.inj (DataW.lit.inj (Option.some.inj hl))).2.symm.trans (by kernel_rfl)
    | 2, _, hl => exact (Lit.int.inj (DataW.lit.inj (Option.some.inj hl))).2.symm.trans (by kernel_rfl)
    | 3, _, hl => exact (Lit.int.inj (DataW.lit.inj (Option.some.inj hl))).2.symm.trans (by kernel_rfl)
    | 4, _, hl => exact (Lit.int.inj (DataW.lit.inj (Option.some.inj hl))).2.symm.trans (by kernel_rfl)
    | 5, _, hl => exact (Lit.int.inj (DataW.lit.inj (Option.some.inj hl))).2.symm.trans (by kernel_rfl)
    | 6, _, hl => exact (Lit.int.inj (DataW.lit.inj (Option.some.inj hl))).2.symm.trans (by kernel_rfl)
    | 7, _, hl => exact (Lit.int.inj (DataW.lit.inj (Option.some.inj hl))).2.symm.trans (by kernel_rfl)
    | 8, _, hl => exact (Lit.int.inj (DataW.lit.inj (Option.some.inj hl))).2.symm.trans (by kernel_rfl)
    | 9, _, hl => exact (Lit.int.inj (DataW.lit.inj (Option.some.inj hl))).2.symm.trans (by kernel_rfl)
    | 10, _, hl => exact (Lit.int.inj (DataW.lit.inj (Option.some.inj hl))).2.symm.trans (by kernel_rfl)
    | 11, _, hl => exact (Lit.int.inj (DataW.lit.inj (Option.some.inj hl))).2.symm.trans (by kernel_rfl)
    | 12, _, hl => exact (Lit.int.inj (DataW.lit.inj (Option.some.inj hl))).2.symm.trans (by kernel_rfl)
    | 13, _, hl => exact (Lit.int.inj (DataW.lit.inj (Option.some.inj hl))).2.symm.trans (by kernel_rfl)
    | 14, _, hl => exact (Lit.int.inj (DataW.lit.inj (Option.some.inj hl))).2.symm.trans (by kernel_rfl)
    | 15, _, hl => exact (Lit.int.inj (DataW.lit.inj (Option.some.inj hl))).2.symm.trans (by kernel_rfl)
    | i + 16, hi, _ => omega
  subst hk
  have hci : cs0[i]? = some (.int .u32 (nibs.getD i 0 : Nat)) := by
    have h9 : ((cs0.toList.drop (i * 1)).take 1)[0]? = (some (.int .u32 (nibs.getD i 0 : Nat)) : Option Value) := by rw [e1]; rfl
    rw [List.getElem?_take, if_pos (by decide), List.getElem?_drop] at h9
    simpa using h9
  rw [hci] at hcc
  exact hcc

set_option maxRecDepth 100000 in
theorem contract (H : Type) (enc : TypeId × Value → H) (W : World) (base : Nat) (args : Array Value) (ds gs : List (DataW H)) (before : List MemPlace)
    (hval0 : ∀ (j : Nat) t v, Tryz.f4.params[j]? = some t → args[j]? = some v → Value.okWide Tryz.prog W .any base t v)
    (hW : DataW.Whole enc Tryz.prog Tryz.f4.params.toList Rows.bookEncodesSpec.vars false W args.toList ds gs before) (hk : Rows.uptoSmall H (ds ++ gs) = true)
    (hsz0 : (DataW.weightsEach Tryz.prog (Tryz.f4.params.toList ++ Rows.bookEncodesSpec.plain.varTypes Tryz.prog) (ds ++ gs)).all (· ≤ reachBytes) = true) (hL : laidMetH Tryz.prog [("daybook/crc.nibbles", Rows.laid_daybook_crc_nibbles)] W) :
    Calls Tryz.prog 4 args W fun e W' => ∃ v, e = .returned v ∧ Rows.bookEncodesSpec.post enc Tryz.prog Tryz.f4 false true false false W args v W' := by
  have hval : ∀ (j : Nat) t v, Tryz.f4.params[j]? = some t → args[j]? = some v → Value.okWide Tryz.prog W .any base t v := hval0
  have hsz : (DataW.weightsEach Tryz.prog (Tryz.f4.params.toList ++ Rows.bookEncodesSpec.plain.varTypes Tryz.prog) (ds ++ gs)).all (· ≤ reachBytes) = true := hsz0
  have hW' := hW
  obtain ⟨p, q, hA0, hV, rfl, hfz, hnd⟩ := hW
  have hA : DataW.TrodAll enc Tryz.prog W 0 (fun _ => true) true Tryz.f4.params.toList args.toList ds p := hA0
  rw [Tryz.params4] at hA hval hsz
  obtain ⟨v0, vs0, d0, ds0, p0, q0, hargs, rfl, rfl, h0, r0⟩ := trodAll_cons hA
  obtain ⟨v1, vs1, d1, ds1, p1, q1, rfl, rfl, rfl, h1, r1⟩ := trodAll_cons r0
  obtain ⟨v2, vs2, d2, ds2, p2, q2, rfl, rfl, rfl, h2, r2⟩ := trodAll_cons r1
  obtain ⟨rfl, rfl, rfl⟩ := trodAll_nil r2
  obtain rfl : args = #[v0, v1, v2] := by cases args; simp_all
  obtain ⟨rfl, rfl⟩ := trodVars_none hV
  obtain ⟨a0, rfl, rfl, rfl, w0⟩ := open_int Tryz.underlying3 (hval 0 3 v0 rfl rfl) h0
  have e0 := i64_of w0
  obtain ⟨a1, rfl, rfl, rfl, w1⟩ := open_int Tryz.underlying3 (hval 1 3 v1 rfl rfl) h1
  have e1 := i64_of w1
  obtain ⟨a2, len2, cap2, rfl⟩ := okWide_slice Tryz.underlying61 (hval 2 61 v2 rfl rfl)
  have k2 := h2
  have lt2 : ∀ x ∈ p2, x.block < W.heap.size := by obtain ⟨m, hm⟩ := k2; exact DataW.trod_lt m _ _ _ hm
  obtain ⟨z2, hl2, y2_0, y2_1, y2_2⟩ : ∃ l : List HSt, len2 = l.length ∧ SsRd W a2 l.length (l.map (·.1)) ∧ (∀ g ∈ l, StWf g.1) ∧ l.length ≤ 1048576 := by
    obtain ⟨fuel, hf⟩ := h2
    have hb := bulk_arg hk (j := 2) Tryz.underlying61 hf rfl
    obtain ⟨A, c, l, he, u1, u2⟩ := open_sts hf (sz_of hsz (j := 2) rfl rfl)
    injection he with e1 e2 e3
    subst e1 e2 e3
    exact ⟨l, rfl, u1, u2, hb⟩
  subst hl2
  clear hA0 hval0
  refine (bookEncodes_walk a0 a1 (z2.map (·.1)) a2 z2.length cap2 W (nib_of hL) y2_0 y2_2 (fun s hs => by obtain ⟨g, hg, rfl⟩ := List.mem_map.1 hs; exact sm_wf (y2_1 g hg))).mono fun e W' ⟨he, bel⟩ => ?_
  subst he
  exact ⟨_, rfl, _, _, _, [], _, [], hW', trodAll_mk1 (shut_bool Tryz.underlying4 _), (trodAll_cons_mk (shut_int Tryz.underlying3 w0) (trodAll_cons_mk (shut_int Tryz.underlying3 w1) (trodAll_cons_mk (Below.trod laidOut (by kernel_rfl) (of_decide_eq_true (by kernel_rfl)) k2 bel lt2) trodAll_mk0))), rfl, bel.frame _, fun h => by cases h⟩

theorem reads (os : Os) {H : Type} (enc : TypeId × Value → H) : ∃ places, DataW.whole enc Tryz.prog ((World.doorLaid Tryz.prog 400 os).forCall (fun _ _ => 0) ⟨#[], #[.int .i64 0, .int .i64 0, .slice none 0 0], []⟩).memory Tryz.f4.params.toList Rows.bookEncodesSpec.vars false (#[.int .i64 0, .int .i64 0, .slice none 0 0] : Array Value).toList 8 = some ([.lit (.int .i64 0), .lit (.int .i64 0), .nil], [], places) :=
  ⟨[], by kernel_rfl⟩
set_option maxRecDepth 100000 in
theorem lifted (os : Os) (started : os.Started) (H : Type) (enc : TypeId × Value → H) (F : Stop.Interp) :
    ReturnsInHanded {} Tryz.checked os 4 .any ((Rows.OpenSpec.upto Rows.bookEncodesSpec).preRow enc Tryz.prog Tryz.f4 Rows.bookEncodesUptoRow.domain false Rows.bookEncodesUptoRow.laid) (((Rows.OpenSpec.upto Rows.bookEncodesSpec).at F).post enc Tryz.prog Tryz.f4 false true false false) := by
  obtain ⟨places, hx⟩ := reads os enc
  have hok : Input.okWideB Tryz.prog ((World.doorLaid Tryz.prog 400 os).forCall (fun _ _ => 0) ⟨#[], #[.int .i64 0, .int .i64 0, .slice none 0 0], []⟩) 4 ⟨#[], #[.int .i64 0, .int .i64 0, .slice none 0 0], []⟩ = true := by kernel_rfl
  refine returnsInHanded_of_row (C := Tryz.checked) (s := Rows.OpenSpec.upto Rows.bookEncodesSpec) own started (by kernel_rfl) Tryz.func4
    ⟨World.doorLaid Tryz.prog 400 os, fun _ _ => 0, ⟨#[], #[.int .i64 0, .int .i64 0, .slice none 0 0], []⟩, rfl, World.shaped_of_RefB (by kernel_rfl) (by kernel_rfl), (Input.okWide_of_okWideB (base := 0) hok).1, (Input.okWide_of_okWideB hok).2,
      OpenSpec.preRow_of_cond 8 hx (by kernel_rfl) (fun k hk => by cases hk; kernel_rfl) (by kernel_rfl) (door_met os _), by simp only [Assume.holds]; exact ⟨by simp, by simp, fun _ => Modest.zero, by simp, by simp⟩⟩ ?_
  intro W base args ds gs before hval hW _ hcond hsz hL _ _
  exact contract H enc W base args ds gs before hval hW (hcond _ rfl) hsz hL

theorem row_proved : Rows.BookEncodesUptoSaid :=
  OpenClaim.holds_of_cond 4 Tryz.f4 rfl rfl rfl rfl rfl rfl rfl ⟨rfl, rfl, rfl, rfl, rfl⟩ rfl rfl rfl rfl rfl (by kernel_rfl) Tryz.func4 (by kernel_rfl)
    (of_decide_eq_true (by kernel_rfl)) (by unfold Func.isWrapper; first | (rw [if_pos (by decide +kernel)]; kernel_rfl) | (rw [if_neg (by decide +kernel)]; exact ⟨rfl, rfl⟩))
    (fun os started H enc _ F => by rw [OpenClaim.pre_eq_preRow]; exact lifted os started H enc F)
theorem proved : Rows.BookEncodesUptoCardSaid :=
  Claim7.holds_tied_plain_at .later [] [.data] true Rows.bookEncodesUptoCard.stood.harness true
    row_proved (fun _ h => by cases h) (by kernel_rfl) (fun _ h => by cases h) bookEncodesUpto_row_tie rfl ⟨rfl, rfl⟩ (by kernel_rfl) rfl
    (fun f fn hf hfn => by
      obtain rfl : f = 4 := Option.some.inj ((show Tryz.prog.funcNamed "daybook/daybooklaw17.BookEncodes" = some 4 by kernel_rfl).symm.trans hf) |>.symm
      obtain rfl : fn = Tryz.f4 := (Option.some.inj (Tryz.func4.symm.trans hfn)).symm
      exact ⟨by kernel_rfl, fun j t ht => by
        rw [Tryz.params4] at ht
        have hm : t ∈ [3, 3, 61] := by simpa using Array.mem_of_getElem? ht
        have hall : ([3, 3, 61].all fun u => !Tryz.prog.wantsStandIn u) = true := by kernel_rfl
        exact (show Tryz.prog.wantsStandIn t = false by simpa using List.all_eq_true.1 hall t hm)⟩)
    (by kernel_rfl)
end Go.Proofs.YtjajbbgebblalaaGreatDoor.bookEncodes
