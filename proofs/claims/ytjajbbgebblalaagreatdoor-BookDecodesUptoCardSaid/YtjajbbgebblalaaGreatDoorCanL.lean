/-
  The walks of canon.line and canon.small.
-/
/-
  The walk of canon.unline: the text of a line as four numbers.
-/
import Derived.Test.YtjajbbgebblalaaGreatDoorWrW
import Derived.Test.YtjajbbgebblalaaGreatDoorOrdW
import Derived.Test.YtjajbbgebblalaaGreatDoorVarP
import Derived.Test.YtjajbbgebblalaaGreatDoorVarW
import Derived.Test.YtjajbbgebblalaaGreatDoorHand
namespace Go.Proofs.YtjajbbgebblalaaGreatDoor
open Go.RowKit
set_option linter.unusedVariables false
set_option linter.unusedSimpArgs false
set_option maxRecDepth 100000 in
theorem ix4 (a b c d : Int) (k : Nat) (hk : k < 4) (W : World) : (Instr.index 252 (.agg #[.int .i64 a, .int .i64 b, .int .i64 c, .int .i64 d]) (.int .i64 (k : Nat))).run Tryz.prog W = .ok (.int .i64 ([a, b, c, d].getD k 0)) W := by
  have : k = 0 ∨ k = 1 ∨ k = 2 ∨ k = 3 := by omega
  rcases this with h | h | h | h <;> subst h <;> (simp [Instr.index, run_underlying Tryz.underlying252, asIntOf]; (try simp [part, run_underlying Tryz.underlying3]))
def lineT (l : Ln) (k : Nat) : List UInt8 := ((lineV l).take k).flatMap fun v => venc (toU v)
theorem lineT_succ (l : Ln) {k : Nat} (hk : k < 4) : lineT l (k + 1) = lineT l k ++ venc (toU ([l.item, l.price, l.qty, l.shipped].getD k 0)) := by
  have : k = 0 ∨ k = 1 ∨ k = 2 ∨ k = 3 := by omega
  rcases this with rfl | rfl | rfl | rfl <;> simp [lineT, lineV]
theorem lineT_four (l : Ln) : lineT l 4 = lineB l := rfl
theorem lineT_len (l : Ln) {k : Nat} (hk : k ≤ 4) : (lineT l k).length ≤ 10 * k := by
  induction k with
  | zero => simp [lineT]
  | succ k ih =>
    rw [lineT_succ l (by omega), List.length_append]
    have h1 := ih (by omega)
    have h2 := venc_len10 _ (toU_lt ([l.item, l.price, l.qty, l.shipped].getD k 0))
    omega
def LinR (w : World) (l : Ln) (c3 c15 : Value) (wr : World) : Prop :=
  ∃ (k : Nat) (A : Option Addr) (c : Nat), c15 = .int .i64 (k : Nat) ∧ k ≤ 4 ∧ c3 = .slice A (lineT l k).length c ∧ Ext w wr ∧ wr.ownsRow w.heap.size 5 1 (.slice A (lineT l k).length c) (lineT l k).length (u8s (lineT l k))
set_option maxRecDepth 100000 in
set_option maxHeartbeats 2000000 in
theorem line_any (l : Ln) (hl : lnB l = true) (w : World) : Calls Tryz.prog 123 #[.agg #[.int .i64 l.item, .int .i64 l.price, .int .i64 l.qty, .int .i64 l.shipped]] w (NewB w (lineB l)) := by
  have hv : ∀ k, k < 4 → 0 ≤ [l.item, l.price, l.qty, l.shipped].getD k 0 ∧ [l.item, l.price, l.qty, l.shipped].getD k 0 ≤ 100000000 := fun k hk => by
    rw [lnB_iff] at hl
    have : k = 0 ∨ k = 1 ∨ k = 2 ∨ k = 3 := by omega
    rcases this with rfl | rfl | rfl | rfl <;> simp <;> omega
  have HV := Lib.hid hv
  clear hv hl
  go_enter Tryz.func123, Tryz.ntmps123
  go_wp2_with fail
  go_loopw [3, 15] (fun c3 c15 wr => LinR w l c3 c15 wr) (fun _ c15 _ => 4 - (intOf c15).toNat)
  case atStart => exact ⟨0, none, 0, rfl, by omega, rfl, (by repeat (first | with_reducible exact Below.refl _ _ | with_reducible assumption | with_reducible refine ExtD ?_ | with_reducible refine ExtDN ?_ | with_reducible refine ExtA ?_ | (with_reducible refine ExtR ?_ ?_; (first | omega | (dsimp only; omega) | (simp; done) | (simp; omega))) | (with_reducible refine ExtS ?_ ?_; (first | omega | (dsimp only; omega) | (simp; done) | (simp; omega))) | with_reducible refine Ext.tr ?_ (by with_reducible assumption))), World.ownsRow_nil _ _ _ _⟩
  case round =>
    obtain ⟨k, A, c, rfl, hk, rfl, hx, ho⟩ := hrel
    have Ho := Lib.hid ho
    clear ho
    by_cases hk4 : k < 4
    · have hix := ix4 l.item l.price l.qty l.shipped k hk4
      have hb := HV.out k hk4
      have HS := Lib.hid (lineT_succ l hk4)
      have HL := Lib.hid (lineT_len l (Nat.le_of_lt hk4))
      have HL2 := Lib.hid (venc_len10 _ (toU_lt ([l.item, l.price, l.qty, l.shipped].getD k 0)))
      generalize [l.item, l.price, l.qty, l.shipped].getD k 0 = v at *
      obtain ⟨m, rfl⟩ : ∃ m : Nat, v = (m : Int) := ⟨v.toNat, by omega⟩
      have hm : m ≤ 100000000 := by omega
      have e : toU (m : Int) = m := by rw [toU_pos (by omega) (by omega)]; omega
      rw [e] at HS HL2
      clear hb e
      have K := Lib.hid fun W => venc_any m W (by omega)
      go_wp2_with (first
        | (go_at_call 81; (with_reducible refine (K.out _).mono ?_); rintro e w1 ⟨A1, c1, rfl, hx1, hown1⟩; have hW1 : Ext w w1 := (by repeat (first | with_reducible exact Below.refl _ _ | with_reducible assumption | with_reducible refine ExtD ?_ | with_reducible refine ExtDN ?_ | with_reducible refine ExtA ?_ | (with_reducible refine ExtR ?_ ?_; (first | omega | (dsimp only; omega) | (simp; done) | (simp; omega))) | (with_reducible refine ExtS ?_ ?_; (first | omega | (dsimp only; omega) | (simp; done) | (simp; omega))) | with_reducible refine Ext.tr ?_ (by with_reducible assumption))))
        | (at_builtin; refine wpB_append rfl (.tmp 18) (.tmp 21) rfl w rfl (own_ext hx1 Ho.out) hW1 rfl (rd_own hown1) (by have := HL.out; have := HL2.out; omega) ?_; intro A2 n2 c2 w2 hx2 hn2 hown2 hk2 hg2))
      go_roundw
      case rel =>
        rw [hn2.out, ← HS.out] at hown2 ⊢
        exact ⟨k + 1, A2, c2, by go_num, by omega, rfl, hx2, hown2⟩
      case measure => simp [intOf]; omega
    · obtain rfl : k = 4 := by omega
      go_wp2_with fail
      go_ret
      exact ⟨A, c, rfl, hx, Ho.out⟩
set_option maxRecDepth 100000 in
set_option maxHeartbeats 2000000 in
theorem small_any (u : Nat) (w : World) : Calls Tryz.prog 134 #[.int .u64 (u : Nat)] w fun e w' => e = .returned (.int .i64 (clampN u : Nat)) ∧ Ext w w' := by
  go_enter Tryz.func134, Tryz.ntmps134
  go_wp2_with fail
  go_ret
  refine ⟨?_, (by repeat (first | with_reducible exact Below.refl _ _ | with_reducible assumption | with_reducible refine ExtD ?_ | with_reducible refine ExtDN ?_ | with_reducible refine ExtA ?_ | (with_reducible refine ExtR ?_ ?_; (first | omega | (dsimp only; omega) | (simp; done) | (simp; omega))) | (with_reducible refine ExtS ?_ ?_; (first | omega | (dsimp only; omega) | (simp; done) | (simp; omega))) | with_reducible refine Ext.tr ?_ (by with_reducible assumption)))⟩
  have e : min (u : Int) 4611686018427387904 = ((clampN u : Nat) : Int) := by unfold clampN; split <;> omega
  rw [← e]
  rfl
end Go.Proofs.YtjajbbgebblalaaGreatDoor

namespace Go.Proofs.YtjajbbgebblalaaGreatDoor
open Go.RowKit
set_option linter.unusedVariables false
set_option linter.unusedSimpArgs false
def vrow (vs : List Int) : Array Value := (vs.map fun v => Value.int .i64 v).toArray
theorem vrow_set (vs : List Int) (k : Nat) (x : Int) : (vrow vs).setIfInBounds k (.int .i64 x) = vrow (vs.set k x) := by
  unfold vrow
  rw [List.setIfInBounds_toArray, List.map_set]
theorem vrow_get {vs : List Int} {k : Nat} (h : k < vs.length) : (vrow vs)[k]? = some (.int .i64 (vs.getD k 0)) := by
  unfold vrow
  simp [List.getD, List.getElem?_eq_getElem h]
theorem set_take (vs : List Int) {k : Nat} (x : Int) (h : k < vs.length) : (vs.set k x).take (k + 1) = vs.take k ++ [x] := by
  rw [List.take_succ_eq_append_getElem (by rw [List.length_set]; exact h), List.take_set_of_le (Nat.le_refl _)]
  simp
def CunR (w : World) (l : List UInt8) (c0 c9 : Value) (wr : World) : Prop :=
  ∃ (k : Nat) (A : Option Addr) (n c : Nat) (rest : List UInt8) (vs : List Int), c9 = .int .i64 (k : Nat) ∧ k ≤ 4 ∧ c0 = .slice A n c ∧ Rd w A n (u8s rest) ∧ n ≤ c ∧ n ≤ maxLen ∧ vs.length = 4 ∧
    unlV 4 l = (unlV (4 - k) rest).map (fun x => (vs.take k ++ x.1, x.2)) ∧ Ext w wr ∧ Blk wr w.heap.size 79 #[.int .i64 0, .int .i64 0, .int .i64 0, .int .i64 0] ∧ Blk wr (w.heap.size + 1) 252 (vrow vs)
theorem unl_step {n : Nat} {b : List UInt8} {u k : Nat} (h : vdec b = (u, k, 0)) : unlV (n + 1) b = (unlV n (b.drop k)).map fun x => (((clampN u : Nat) : Int) :: x.1, x.2) := by
  rw [unlV, h]
  simp
theorem unl_bad {n : Nat} {b : List UInt8} (h : (vdec b).2.2 ≠ 0) : unlV (n + 1) b = none := by rw [unlV, if_pos h]
theorem clampN_le (u : Nat) : clampN u ≤ 4611686018427387904 := by unfold clampN; split <;> omega
def UnPost (w : World) (l : List UInt8) (e : Ending) (w' : World) : Prop := e = .returned (.tuple #[.agg #[.int .i64 (unl l).1.item, .int .i64 (unl l).1.price, .int .i64 (unl l).1.qty, .int .i64 (unl l).1.shipped], .bool (unl l).2]) ∧ Ext w w'
set_option maxRecDepth 100000 in
set_option maxHeartbeats 4000000 in
theorem unline_any (A : Option Addr) (n c : Nat) (l : List UInt8) (w : World) (hr : Rd w A n (u8s l)) (hnc : n ≤ c) (hn : n ≤ maxLen) :
    Calls Tryz.prog 137 #[.slice A n c] w (UnPost w l) := by
  unfold UnPost
  have hal := alloc_ln
  unfold lncells at hal
  dsimp only at hal
  go_enter Tryz.func137, Tryz.ntmps137
  go_wp2_with fail
  go_loopw [0, 9] (fun c0 c9 wr => CunR w l c0 c9 wr) (fun _ c9 _ => 4 - (intOf c9).toNat)
  case atStart => exact ⟨0, A, n, c, l, [0, 0, 0, 0], rfl, by omega, rfl, hr, hnc, hn, rfl, by simp, (by repeat (first | with_reducible exact Below.refl _ _ | with_reducible assumption | with_reducible refine ExtD ?_ | with_reducible refine ExtDN ?_ | with_reducible refine ExtA ?_ | (with_reducible refine ExtR ?_ ?_; (first | omega | (dsimp only; omega) | (simp; done) | (simp; omega))) | (with_reducible refine ExtS ?_ ?_; (first | omega | (dsimp only; omega) | (simp; done) | (simp; omega))) | with_reducible refine Ext.tr ?_ (by with_reducible assumption))), BlkA (BlkN rfl), BlkN (by simp)⟩
  case round =>
    obtain ⟨k, A1, n1, c1, rest, vs, rfl, hk, rfl, hr1, hnc1, hn1, hvs, hun, hx, hb1, hb2⟩ := hrel
    have hl1 : rest.length = n1 := by have := hr1.1; rw [u8s_len] at this; exact this
    by_cases hk4 : k < 4
    · obtain ⟨⟨u, d, e⟩, hv⟩ : ∃ x, x = vdec rest := ⟨_, rfl⟩
      have K := vdec_any A1 n1 c1 rest wr (hr1.ext hx) hn1
      unfold DecT at K
      rw [← hv] at K
      dsimp only at K
      have HK := Lib.hid K
      clear K
      by_cases he : e = 0
      · subst he
        obtain ⟨r, hr2, hd, hu⟩ := vdec_inv hv.symm
        have hdn : d ≤ n1 := by rw [← hl1, hr2, List.length_append, hd]; omega
        obtain ⟨A2, hsl, hrd⟩ := slice_lo A1 n1 c1 d hdn hnc1
        have hu2 : unlV 4 l = (unlV (4 - (k + 1)) (rest.drop d)).map (fun x => ((vs.set k ((clampN u : Nat) : Int)).take (k + 1) ++ x.1, x.2)) := by
          rw [hun, show 4 - k = (4 - (k + 1)) + 1 by omega, unl_step hv.symm, Option.map_map, set_take vs _ (by omega)]
          congr 1
          funext x
          simp
        have HU := Lib.hid hu2
        have HR2 := Lib.hid (hrd w rest hr1)
        have HB1 := Lib.hid hb1
        have HB2 := Lib.hid hb2
        have HQ := Lib.hid fun (W : World) (hx : Ext wr W) => show W.cell? ⟨w.heap.size + 1, k, none⟩ = some (.int .i64 (vs.getD k 0)) ∧ W.frozen? ⟨w.heap.size + 1, k, none⟩ = false from ⟨by rw [(BlkE hb2 hx).cell k, vrow_get (by omega)], (BlkE hb2 hx).frozen k⟩
        have KS := Lib.hid (small_any u)
        have HL := Lib.hid (And.intro hvs hn1)
        have hcl := clampN_le u
        clear hu2 hrd hb1 hb2 hun hv hr2 hd hr1 hl1 hn1
        generalize clampN u = m at *
        go_wp2_with (first
          | (go_at_call 131; (with_reducible refine (HK.out).mono ?_); rintro e w1 ⟨rfl, rfl⟩)
          | (go_at_call 134; (with_reducible refine (KS.out _).mono ?_); rintro e w2 ⟨rfl, hx2⟩; obtain ⟨hq, hf⟩ := HQ.out w2 hx2))
        go_roundw
        case rel => exact ⟨k + 1, A2, _, _, rest.drop d, vs.set k (m : Int), by go_num, by omega, rfl, HR2.out, by omega, by have := HL.out.2; simp only [maxLen] at *; omega, by rw [List.length_set]; exact HL.out.1, HU.out, (by repeat (first | with_reducible exact Below.refl _ _ | with_reducible assumption | with_reducible refine ExtD ?_ | with_reducible refine ExtDN ?_ | with_reducible refine ExtA ?_ | (with_reducible refine ExtR ?_ ?_; (first | omega | (dsimp only; omega) | (simp; done) | (simp; omega))) | (with_reducible refine ExtS ?_ ?_; (first | omega | (dsimp only; omega) | (simp; done) | (simp; omega))) | with_reducible refine Ext.tr ?_ (by with_reducible assumption))), BlkF (by dsimp only; omega) (BlkE HB1.out hx2), Blk_eq (BlkS (BlkE HB2.out hx2)) (vrow_set _ _ _)⟩
        case measure => simp [intOf]; omega
      · have hbad : unl l = (⟨0, 0, 0, 0⟩, false) := by
          unfold unl
          rw [hun, show 4 - k = (3 - k) + 1 by omega, unl_bad (by rw [← hv]; exact he)]
          rfl
        have HB := Lib.hid hbad
        have te : ((e : Int) != 0) = true := by simp; exact he
        have HB1 := Lib.hid hb1
        clear hbad hun hb2 hv hr1 hl1 hn1 he
        go_wp2_with (first
          | (go_at_call 131; (with_reducible refine (HK.out).mono ?_); rintro e w1 ⟨rfl, rfl⟩)
          | (change wpList _ _ _ (⟨none, .store _ (.tmp 2) (.tmp 20), _, _, _, _⟩ :: _) _ _; refine wpL_store_row rfl 79 (.tmp 2) (.tmp 20) rfl w.heap.size 79 _ _ rfl rfl HB1.out rfl (ln_one ⟨0, 0, 0, 0⟩) 4 ln_wide rfl ?_))
        refine bodyPost_ret (v := .tuple #[.agg #[.int .i64 0, .int .i64 0, .int .i64 0, .int .i64 0], .bool false]) (res_row_t rfl _ w.heap.size 79 _ 4 _ rfl rfl (Blk.setRow_ HB1.out) ln_wide rfl) rfl ?_
        rw [HB.out]
        exact ⟨rfl, (by repeat (first | with_reducible exact Below.refl _ _ | with_reducible assumption | with_reducible refine ExtD ?_ | with_reducible refine ExtDN ?_ | with_reducible refine ExtA ?_ | (with_reducible refine ExtR ?_ ?_; (first | omega | (dsimp only; omega) | (simp; done) | (simp; omega))) | (with_reducible refine ExtS ?_ ?_; (first | omega | (dsimp only; omega) | (simp; done) | (simp; omega))) | with_reducible refine Ext.tr ?_ (by with_reducible assumption)))⟩
    · obtain rfl : k = 4 := by omega
      match vs, hvs with
      | [v0, v1, v2, v3], _ =>
        have hu2 : unl l = (⟨v0, v1, v2, v3⟩, rest.isEmpty) := by
          unfold unl
          rw [hun]
          rfl
        have HU := Lib.hid hu2
        have hre : rest.isEmpty = decide (n1 = 0) := by
          rw [← hl1]
          cases rest <;> simp
        rw [hre] at HU
        have HB1 := Lib.hid hb1
        have q0 : wr.cell? ⟨w.heap.size + 1, 0, none⟩ = some (.int .i64 v0) := hb2.cell 0
        have q1 : wr.cell? ⟨w.heap.size + 1, 1, none⟩ = some (.int .i64 v1) := hb2.cell 1
        have q2 : wr.cell? ⟨w.heap.size + 1, 2, none⟩ = some (.int .i64 v2) := hb2.cell 2
        have q3 : wr.cell? ⟨w.heap.size + 1, 3, none⟩ = some (.int .i64 v3) := hb2.cell 3
        have te : ((n1 : Int) == 0) = decide (n1 = 0) := by rw [Bool.eq_iff_iff]; simp
        clear hu2 hun hb2 hr1 hl1 hn1 hre
        go_wp2_with (change wpList _ _ _ (⟨none, .store _ (.tmp 2) (.tmp 37), _, _, _, _⟩ :: _) _ _; refine wpL_store_row rfl 79 (.tmp 2) (.tmp 37) rfl w.heap.size 79 _ _ rfl rfl HB1.out rfl (ln_one ⟨v0, v1, v2, v3⟩) 4 ln_wide rfl ?_)
        refine bodyPost_ret (v := .tuple #[.agg #[.int .i64 v0, .int .i64 v1, .int .i64 v2, .int .i64 v3], .bool (decide (n1 = 0))]) (res_row_t rfl _ w.heap.size 79 _ 4 _ rfl rfl (Blk.setRow_ HB1.out) ln_wide rfl) rfl ?_
        rw [HU.out]
        exact ⟨rfl, (by repeat (first | with_reducible exact Below.refl _ _ | with_reducible assumption | with_reducible refine ExtD ?_ | with_reducible refine ExtDN ?_ | with_reducible refine ExtA ?_ | (with_reducible refine ExtR ?_ ?_; (first | omega | (dsimp only; omega) | (simp; done) | (simp; omega))) | (with_reducible refine ExtS ?_ ?_; (first | omega | (dsimp only; omega) | (simp; done) | (simp; omega))) | with_reducible refine Ext.tr ?_ (by with_reducible assumption)))⟩

end Go.Proofs.YtjajbbgebblalaaGreatDoor
