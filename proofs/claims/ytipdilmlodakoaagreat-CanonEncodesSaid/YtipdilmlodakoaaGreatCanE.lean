/-
  The walks of canon.Encode and canon.Size.
-/
/-
  The walk of the laws' head: one record that the document fixes.
-/
import Derived.Test.YtipdilmlodakoaaGreatCanL
import Derived.Test.YtipdilmlodakoaaGreatOrdVa
import Derived.Test.YtipdilmlodakoaaGreatCanD
import Derived.Test.YtipdilmlodakoaaGreatOrdCp
import Derived.Test.YtipdilmlodakoaaGreatBytesX
namespace Go.Proofs.YtipdilmlodakoaaGreat
open Go.RowKit
set_option linter.unusedVariables false
set_option linter.unusedSimpArgs false
set_option maxRecDepth 100000 in
theorem ix10 (a b c d e f g h i j : Int) (k : Nat) (hk : k < 10) (W : World) : (Instr.index 47 (.agg #[.int .i64 a, .int .i64 b, .int .i64 c, .int .i64 d, .int .i64 e, .int .i64 f, .int .i64 g, .int .i64 h, .int .i64 i, .int .i64 j]) (.int .i64 (k : Nat))).run Tryz.prog W = .ok (.int .i64 ([a, b, c, d, e, f, g, h, i, j].getD k 0)) W := by
  have : k = 0 ∨ k = 1 ∨ k = 2 ∨ k = 3 ∨ k = 4 ∨ k = 5 ∨ k = 6 ∨ k = 7 ∨ k = 8 ∨ k = 9 := by omega
  rcases this with h | h | h | h | h | h | h | h | h | h <;> subst h <;> (simp [Instr.index, run_underlying Tryz.underlying47, asIntOf]; (try simp [part, run_underlying Tryz.underlying3]))
theorem kept_foldl (fs : List Fld) (st : List Fld × Nat) (h : Kept st) (hf : ∀ f ∈ fs, f.wf) : Kept (fs.foldl addW st) := by
  induction fs generalizing st with
  | nil => exact h
  | cons f r ih => exact ih _ (addW_kept h (hf f (List.mem_cons_self ..))) fun g hg => hf g (List.mem_cons_of_mem _ hg)
def numSt (s : St) (k : Nat) : List Fld × Nat := (numFs 1 ((numsOf s).take k)).foldl addW ([], 0)
def lineSt (s : St) (k : Nat) : List Fld × Nat := (lineFs 12 (s.lines.take k)).foldl addW (addW (numSt s 10) (whoF s))
theorem numSt_kept (s : St) (k : Nat) : Kept (numSt s k) := kept_foldl _ _ kept_nil fun f hf => by
  obtain ⟨a, b, c, d, e⟩ := mem_numFs hf
  have h2 : ((numsOf s).take k).length ≤ 10 := by rw [List.length_take]; exact Nat.min_le_right _ _
  exact ⟨by omega, by omega, e⟩
theorem lineSt_kept {s : St} (hs : s.lines.length ≤ 16) (k : Nat) : Kept (lineSt s k) := kept_foldl _ _ (addW_kept (numSt_kept s 10) ⟨by unfold whoF; dsimp only; omega, by unfold whoF; dsimp only; omega, by unfold whoF; dsimp only; omega⟩) fun f hf => by
  obtain ⟨a, b, c, d, e⟩ := mem_lineFs hf
  have h2 : (s.lines.take k).length ≤ s.lines.length := by rw [List.length_take]; exact Nat.min_le_right _ _
  exact ⟨by omega, by omega, by omega⟩
theorem numSt_succ (s : St) {k : Nat} (hk : k < 10) : numSt s (k + 1) = addW (numSt s k) ⟨1 + k, false, toU ((numsOf s)[k]'hk), []⟩ := by
  unfold numSt
  rw [numFs_take (l := numsOf s) hk, List.foldl_append]
  rfl
theorem lineSt_succ (s : St) {k : Nat} (hk : k < s.lines.length) : lineSt s (k + 1) = addW (lineSt s k) ⟨12 + k, true, 0, lineB s.lines[k]⟩ := by
  unfold lineSt
  rw [lineFs_take hk, List.foldl_append]
  rfl
theorem lineSt_zero (s : St) : lineSt s 0 = addW (numSt s 10) (whoF s) := by
  unfold lineSt
  rw [List.take_zero]
  simp only [lineFs, List.foldl_nil]
theorem lineSt_all {s : St} (h : VOk s) : lineSt s s.lines.length = (refF s, 0) := by
  rw [← fold_all h]
  unfold lineSt allF numSt
  have e : (numsOf s).take 10 = numsOf s := List.take_of_length_le (Nat.le_refl _)
  rw [List.foldl_append, List.foldl_cons, List.take_of_length_le (Nat.le_refl _), e]
theorem st_cells {w : World} {g : Nat} {s : St} {A : Option Addr} {c : Nat} (h : Blk w g 25 (stcells s A c)) :
    (w.cell? ⟨g, 0, none⟩ = some (.int .i64 s.order) ∧ w.cell? ⟨g, 1, none⟩ = some (.int .i64 s.status) ∧ w.cell? ⟨g, 2, none⟩ = some (.int .i64 s.prior) ∧ w.cell? ⟨g, 3, none⟩ = some (.int .i64 s.cur) ∧ w.cell? ⟨g, 4, none⟩ = some (.int .i64 s.tax) ∧ w.cell? ⟨g, 5, none⟩ = some (.slice A s.lines.length c)) ∧
    (w.cell? ⟨g, 6, none⟩ = some (.int .i64 s.paid) ∧ w.cell? ⟨g, 7, none⟩ = some (.int .i64 s.refunded) ∧ w.cell? ⟨g, 8, none⟩ = some (.int .i64 s.events) ∧ w.cell? ⟨g, 9, none⟩ = some (.int .i64 s.refused) ∧ w.cell? ⟨g, 10, none⟩ = some (.int .i64 s.stamp) ∧ w.cell? ⟨g, 11, none⟩ = some (.string s.who)) :=
  ⟨⟨h.cell 0, h.cell 1, h.cell 2, h.cell 3, h.cell 4, h.cell 5⟩, h.cell 6, h.cell 7, h.cell 8, h.cell 9, h.cell 10, h.cell 11⟩
def CE1 (W0 : World) (g : Nat) (s : St) (c34 : Value) (wr : World) : Prop := ∃ k : Nat, c34 = .int .i64 (k : Nat) ∧ k ≤ 10 ∧ WS W0 wr g (numSt s k)
def CE2 (W0 : World) (g : Nat) (s : St) (n : Nat) (c53 : Value) (wr : World) : Prop := ∃ k : Nat, c53 = .int .i64 (k : Nat) ∧ k ≤ n ∧ WS W0 wr g (lineSt s k)
def CanEPost (w : World) (s : St) (e : Ending) (w' : World) : Prop := ∃ A1 c1, e = .returned (.tuple #[.slice A1 (canE s).1.length c1, .int .i64 ((canE s).2 : Nat)]) ∧ Ext w w' ∧ w'.ownsRow w.heap.size 5 1 (.slice A1 (canE s).1.length c1) (canE s).1.length (u8s (canE s).1)
set_option maxRecDepth 100000 in
set_option maxHeartbeats 4000000 in
theorem cenc_any (s : St) (A : Option Addr) (c : Nat) (w : World) (hr : LsRd w A s.lines) (hn : s.lines.length ≤ 4611686018427387904) (hw : s.who.size ≤ 4611686018427387904) :
    Calls Tryz.prog 7 #[.agg (stcells s A c)] w (CanEPost w s) := by
  have KV := Lib.hid fun W (hx : Ext w W) => valid_any s A c W (hr.ext hx) hn hw
  by_cases hv : validB s = true
  · have hok := valid_iff.1 hv
    have hE := canE_ok hv
    have HA := Lib.hid (lineSt_all hok)
    have HE := Lib.hid hE
    have HK1 := Lib.hid (numSt_kept s)
    have HK2 := Lib.hid (lineSt_kept hok.len)
    have HS1 := Lib.hid fun k (hk : k < 10) => numSt_succ s hk
    have HS2 := Lib.hid fun k (hk : k < s.lines.length) => lineSt_succ s hk
    have HB := Lib.hid (numsOf_big hok)
    have HLn := Lib.hid hok.lines_ok
    have hw16 := who_len hok
    have hwl : s.who.data.toList.length = s.who.size := by rw [Array.length_toList]; rfl
    have Hn := Lib.hid (show s.lines.length ≤ 16 from hok.len)
    have Hfin := Lib.hid (refF_enc hok)
    have KT : Hid (∀ (W0 W : World) (g : Nat) (B : Option Addr) (cb : Nat), WS W0 W g (numSt s 10) → Rd W B s.who.size (u8s s.who.data.toList) → Calls Tryz.prog 18 #[.pointer (some ⟨g, 0, none⟩), .int .i64 11, .slice B s.who.size cb] W fun e w' => e = .returned (.pointer (some ⟨g, 0, none⟩)) ∧ WS W0 w' g (lineSt s 0)) := Lib.hid fun W0 W g B cb h hB => by
      have := wx_text h (numSt_kept s 10) 11 s.who.data.toList B cb (by rw [hwl]; exact hB) (by omega)
      rw [hwl] at this
      rw [lineSt_zero]
      exact this
    have HR := Lib.hid fun W (hx : Ext w W) => hr.ext hx
    have HC := Lib.hid fun W (hb : Ext (w.alloc (.cells (stcells s A c) 25)) W) => st_cells (s := s) (A := A) (c := c) (BlkE (BlkN (w := w) rfl) hb)
    rw [hv] at KV
    clear hv hok hE hw16 hwl hr hn hw
    unfold CanEPost
    unfold stcells at *
    go_enter Tryz.func7, Tryz.ntmps7
    go_wp2_with (first
      | (go_at_call 15; (with_reducible refine (KV.out _ (ExtA (Ext.rfl' _))).mono ?_); rintro e w1 ⟨rfl, hx1⟩)
      | (go_at_call 16; (with_reducible refine (newWriter_any _).mono ?_); rintro e w2 ⟨rfl, hx2, hb2⟩; have S2 := WS.mk0 hx2 hb2; have S2' := Lib.hid S2; clear S2; obtain ⟨⟨d0, d1, d2, d3, d4, d5⟩, d6, d7, d8, d9, d10, d11⟩ := HC.out w2 (hx1.tr hx2)))
    have hal := alloc_ln
    unfold lncells at hal
    dsimp only at hal
    go_loopw [34] (fun c34 wr => CE1 w1 w1.heap.size s c34 wr) (fun c34 _ => 10 - (intOf c34).toNat)
    case atStart => exact ⟨0, rfl, by omega, S2'.out⟩
    case round =>
      obtain ⟨k, rfl, hk, hS⟩ := hrel
      have HSk := Lib.hid hS
      clear hS
      by_cases hk10 : k < 10
      · have hix := ix10 s.order s.status s.prior s.cur s.tax s.paid s.refunded s.events s.refused s.stamp k hk10
        have hg : [s.order, s.status, s.prior, s.cur, s.tax, s.paid, s.refunded, s.events, s.refused, s.stamp].getD k 0 = (numsOf s)[k]'hk10 := by
          show (numsOf s).getD k 0 = _
          rw [List.getD_eq_getElem?_getD, List.getElem?_eq_getElem (show k < (numsOf s).length from hk10)]
          rfl
        rw [hg] at hix
        have hb := HB.out _ (List.getElem_mem (l := numsOf s) (n := k) hk10)
        have HS1k := Lib.hid (HS1.out k hk10)
        clear hg
        generalize (numsOf s)[k]'hk10 = v at *
        obtain ⟨m, rfl⟩ : ∃ m : Nat, v = (m : Int) := ⟨v.toNat, by omega⟩
        have hm : m < 4611686018427387904 := by omega
        rw [show toU (m : Int) = m by rw [toU_pos (by omega) (by omega)]; omega] at HS1k
        have K := Lib.hid (wx_num HSk.out (HK1.out k) (1 + (k : Int)) m)
        rw [← HS1k.out] at K
        clear hb
        go_wp2_with (go_at_call 17; (with_reducible refine (K.out).mono ?_); rintro e w3 ⟨rfl, hS3⟩; have S3 := Lib.hid hS3; clear hS3)
        go_roundw
        case rel => exact ⟨k + 1, by go_num, by omega, S3.out⟩
        case measure => simp [intOf]; omega
      · obtain rfl : k = 10 := by omega
        have kb := fun W => bytes_run s.who W
        obtain ⟨⟨d0, d1, d2, d3, d4, d5⟩, d6, d7, d8, d9, d10, d11⟩ := HC.out wr (hx1.tr HSk.out.x)
        go_wp2_with (go_at_call 18; (with_reducible refine (KT.out _ _ _ _ _ (HSk.out.up (bytes_ext s.who wr)) (bytes_rd s.who wr)).mono ?_); rintro e w4 ⟨rfl, hS4⟩; have S4 := Lib.hid hS4; clear hS4; obtain ⟨⟨d0, d1, d2, d3, d4, d5⟩, d6, d7, d8, d9, d10, d11⟩ := HC.out w4 (hx1.tr S4.out.x))
        clear HSk hk hk10 kb
        go_loopw [53] (fun c53 wr => CE2 w1 w1.heap.size s s.lines.length c53 wr) (fun c53 _ => s.lines.length - (intOf c53).toNat)
        case atStart => exact ⟨0, rfl, by omega, S4.out⟩
        case round =>
          obtain ⟨k, rfl, hk, hS⟩ := hrel
          have HSk := Lib.hid hS
          clear hS
          rename World => wy
          clear d0 d1 d2 d3 d4 d5 d6 d7 d8 d9 d10 d11
          have hn16 : s.lines.length ≤ 16 := Hn.out
          by_cases hlt : k < s.lines.length
          · have hxw : Ext w wy := (ExtA (Ext.rfl' w)).tr (hx1.tr HSk.out.x)
            obtain ⟨b, o, rfl, hc⟩ := ls_at (HR.out wy hxw) hlt
            have Hc := Lib.hid hc
            have HS2k := Lib.hid (HS2.out k hlt)
            have hl := HLn.out _ (List.getElem_mem hlt)
            clear hc
            generalize s.lines[k] = l at *
            have KL := Lib.hid fun W => line_any l hl W
            have KT2 : Hid (∀ W B cb, Ext wy W → Rd W B (lineB l).length (u8s (lineB l)) → Calls Tryz.prog 18 #[.pointer (some ⟨w1.heap.size, 0, none⟩), .int .i64 (12 + (k : Int)), .slice B (lineB l).length cb] W fun e w' => e = .returned (.pointer (some ⟨w1.heap.size, 0, none⟩)) ∧ WS w1 w' w1.heap.size (lineSt s (k + 1))) := Lib.hid fun W B cb hx hB => by
              have := wx_text (HSk.out.up hx) (HK2.out k) (12 + (k : Int)) (lineB l) B cb hB (by have := lineB_len hl; omega)
              rw [HS2k.out]
              exact this
            unfold lncells at Hc
            have e0 : wy.cell? ⟨b, o + k * 4, none⟩ = some (.int .i64 l.item) := Hc.out 0 _ rfl
            have e1 : wy.cell? ⟨b, o + k * 4 + 1, none⟩ = some (.int .i64 l.price) := Hc.out 1 _ rfl
            have e2 : wy.cell? ⟨b, o + k * 4 + 2, none⟩ = some (.int .i64 l.qty) := Hc.out 2 _ rfl
            have e3 : wy.cell? ⟨b, o + k * 4 + 3, none⟩ = some (.int .i64 l.shipped) := Hc.out 3 _ rfl
            have Hl := Lib.hid hl
            clear hl HS2k
            go_wp2_with (first
              | (go_at_call 19; (with_reducible refine (KL.out _).mono ?_); rintro e w6 ⟨A6, c6, rfl, hx6, ho6⟩; have O6 := Lib.hid ho6; clear ho6; have hw6 : Ext wy w6 := (by repeat (first | with_reducible exact Below.refl _ _ | with_reducible assumption | with_reducible refine ExtD ?_ | with_reducible refine ExtDN ?_ | with_reducible refine ExtA ?_ | (with_reducible refine ExtR ?_ ?_; (first | omega | (dsimp only; omega) | (simp; done) | (simp; omega))) | (with_reducible refine ExtS ?_ ?_; (first | omega | (dsimp only; omega) | (simp; done) | (simp; omega))) | with_reducible refine Ext.tr ?_ (by with_reducible assumption))))
              | (go_at_call 18; (with_reducible refine (KT2.out _ _ _ hw6 (rd_own O6.out)).mono ?_); rintro e w7 ⟨rfl, hS7⟩; have S7 := Lib.hid hS7; clear hS7))
            go_roundw
            case rel => exact ⟨k + 1, by go_num, by omega, S7.out⟩
            case measure => simp [intOf]; omega
          · obtain rfl : k = s.lines.length := by omega
            have KD := wx_done HSk.out (HK2.out s.lines.length)
            rw [HA.out] at KD
            simp only [if_true, Hfin.out] at KD
            have KD2 := Lib.hid KD
            clear KD
            go_wp2_with (go_at_call 20; (with_reducible refine (KD2.out).mono ?_); rintro e w5 ⟨A1, c1, rfl, hx5, ho5⟩; have O5 := Lib.hid ho5; clear ho5)
            go_ret2
            rw [HE.out]
            have hxw : Ext w wy := (ExtA (Ext.rfl' w)).tr (hx1.tr HSk.out.x)
            exact ⟨A1, c1, rfl, hxw.tr hx5, own_base O5.out hxw.size⟩
  · have hvf : validB s = false := by simpa using hv
    have HE : Hid (canE s = ([], 40)) := Lib.hid (by unfold canE; rw [if_neg hv])
    rw [hvf] at KV
    clear hr hn hw hv hvf
    unfold CanEPost
    rw [HE.out]
    unfold stcells at *
    go_enter Tryz.func7, Tryz.ntmps7
    go_wp2_with (go_at_call 15; (with_reducible refine (KV.out _ (ExtA (Ext.rfl' _))).mono ?_); rintro e w1 ⟨rfl, hx1⟩)
    go_ret2
    exact ⟨none, 0, rfl, (by repeat (first | with_reducible exact Below.refl _ _ | with_reducible assumption | with_reducible refine ExtD ?_ | with_reducible refine ExtDN ?_ | with_reducible refine ExtA ?_ | (with_reducible refine ExtR ?_ ?_; (first | omega | (dsimp only; omega) | (simp; done) | (simp; omega))) | (with_reducible refine ExtS ?_ ?_; (first | omega | (dsimp only; omega) | (simp; done) | (simp; omega))) | with_reducible refine Ext.tr ?_ (by with_reducible assumption))), World.ownsRow_nil _ _ _ _⟩
set_option maxRecDepth 100000 in
set_option maxHeartbeats 4000000 in
theorem csize_any (s : St) (A : Option Addr) (c : Nat) (w : World) (hr : LsRd w A s.lines) (hn : s.lines.length ≤ 4611686018427387904) (hw : s.who.size ≤ 4611686018427387904) :
    Calls Tryz.prog 9 #[.agg (stcells s A c)] w fun e w' => e = .returned (.int .i64 ((canE s).1.length : Nat)) ∧ Ext w w' := by
  have K := Lib.hid fun W (hx : Ext w W) => cenc_any s A c W (hr.ext hx) hn hw
  unfold CanEPost stcells at *
  clear hr hn hw
  generalize (canE s).1 = l at *
  generalize (canE s).2 = e at *
  go_enter Tryz.func9, Tryz.ntmps9
  go_wp2_with (go_at_call 7; (with_reducible refine (K.out _ (ExtA (Ext.rfl' _))).mono ?_); rintro e w1 ⟨A1, c1, rfl, hx1, ho1⟩; clear ho1)
  go_ret
  exact ⟨rfl, (by repeat (first | with_reducible exact Below.refl _ _ | with_reducible assumption | with_reducible refine ExtD ?_ | with_reducible refine ExtDN ?_ | with_reducible refine ExtA ?_ | (with_reducible refine ExtR ?_ ?_; (first | omega | (dsimp only; omega) | (simp; done) | (simp; omega))) | (with_reducible refine ExtS ?_ ?_; (first | omega | (dsimp only; omega) | (simp; done) | (simp; omega))) | with_reducible refine Ext.tr ?_ (by with_reducible assumption)))⟩
end Go.Proofs.YtipdilmlodakoaaGreat

namespace Go.Proofs.YtipdilmlodakoaaGreat
open Go.RowKit
set_option linter.unusedVariables false
set_option linter.unusedSimpArgs false
theorem st12_one (s : St) (A : Option Addr) (c : Nat) : ∀ v ∈ (stcells s A c).toList, v.oneCell' = true := s12_one _ _ _ _ _ _ _ _ _ _ _ _ _ _
def hd7 : St := ⟨7, 0, 0, 0, 0, [], 0, 0, 0, 0, 0, ⟨#[]⟩⟩
theorem hd7_valid : validB hd7 = true := by kernel_rfl
theorem hd7_fs : refF hd7 = [⟨1, false, 7, []⟩] := by kernel_rfl
theorem hd7_rec : encR (refF hd7) = [2, 7] := by
  have h1 := refF_enc (valid_iff.1 hd7_valid)
  unfold encR
  rw [if_pos h1, hd7_fs]
  have : one ⟨1, false, 7, []⟩ = venc 2 ++ venc 7 := rfl
  rw [encB_cons, encB_nil, this, venc_lo (by omega), venc_lo (by omega)]
  rfl
theorem hd7_E : canE hd7 = ([2, 7], 0) := by rw [canE_ok hd7_valid, hd7_rec]
theorem hd7_D : canD [2, 7] = (hd7, 0) := by rw [← hd7_rec]; exact canD_enc hd7_valid
theorem hd_enc (w : World) : Calls Tryz.prog 7 #[.agg #[.int .i64 7, .int .i64 0, .int .i64 0, .int .i64 0, .int .i64 0, .slice none 0 0, .int .i64 0, .int .i64 0, .int .i64 0, .int .i64 0, .int .i64 0, .string ⟨#[]⟩]] w fun e w' =>
    ∃ A1 c1, e = .returned (.tuple #[.slice A1 2 c1, .int .i64 0]) ∧ Ext w w' ∧ Rd w' A1 2 (u8s [2, 7]) := by
  refine (cenc_any hd7 none 0 w (RdN.nil_ _ _ _) (by decide) (by decide)).mono ?_
  unfold CanEPost
  rw [hd7_E]
  rintro e w' ⟨A1, c1, rfl, hx, ho⟩
  exact ⟨A1, c1, rfl, hx, rd_own ho⟩
theorem hd_dec (A : Option Addr) (c : Nat) (hc : 2 ≤ c) (w : World) (hr : Rd w A 2 (u8s [2, 7])) : Calls Tryz.prog 11 #[.slice A 2 c] w fun e w' =>
    ∃ A1 c1, e = .returned (.tuple #[.agg #[.int .i64 7, .int .i64 0, .int .i64 0, .int .i64 0, .int .i64 0, .slice A1 0 c1, .int .i64 0, .int .i64 0, .int .i64 0, .int .i64 0, .int .i64 0, .string ⟨#[]⟩], .int .i64 0]) ∧ Ext w w' := by
  refine (cdec_any A 2 c [2, 7] w hr hc (by decide)).mono ?_
  unfold CanDPost
  rw [hd7_D]
  rintro e w' ⟨A1, c1, rfl, hx, ho⟩
  exact ⟨A1, c1, rfl, hx⟩
theorem hd_size (A : Option Addr) (c : Nat) (w : World) : Calls Tryz.prog 9 #[.agg #[.int .i64 7, .int .i64 0, .int .i64 0, .int .i64 0, .int .i64 0, .slice A 0 c, .int .i64 0, .int .i64 0, .int .i64 0, .int .i64 0, .int .i64 0, .string ⟨#[]⟩]] w fun e w' =>
    e = .returned (.int .i64 2) ∧ Ext w w' := by
  refine (csize_any hd7 A c w (RdN.nil_ _ _ _) (by decide) (by decide)).mono ?_
  rw [hd7_E]
  exact fun _ _ h => h
set_option maxRecDepth 100000 in
set_option maxHeartbeats 4000000 in
theorem chead_any (w : World) : Calls Tryz.prog 4 #[] w fun e w' => e = .returned (.bool true) ∧ Ext w w' := by
  have K1 := Lib.hid hd_enc
  have K2 := Lib.hid hd_dec
  have K3 := Lib.hid hd_size
  have K4 : Hid (∀ (W : World) A B c c2, Rd W A 2 (u8s [2, 7]) → Rd W B 2 (u8s [2, 7]) → Calls Tryz.prog 8 #[.slice A 2 c, .slice B 2 c2] W fun e w' => e = .returned (.bool true) ∧ Ext W w') := Lib.hid fun W A B c c2 h1 h2 => by
    refine (same_any A B 2 c 2 c2 [2, 7] [2, 7] W h1 h2 (by decide)).mono ?_
    rintro e w' ⟨rfl, hx⟩
    exact ⟨by simp, hx⟩
  have KR : Hid (∀ (W : World) (g : Nat), W.heap.size = g → Rd (W.alloc (.cells #[.int .u8 2, .int .u8 7] 5)) (some ⟨g, 0, none⟩) 2 (u8s [2, 7])) := Lib.hid fun W g hg => by subst hg; exact rd_new W #[.int .u8 2, .int .u8 7] 5
  go_enter Tryz.func4, Tryz.ntmps4
  go_wp2_with (first
    | (go_at_call 7; (with_reducible refine (K1.out _).mono ?_); rintro e w1 ⟨A1, c1, rfl, hx1, hr1⟩)
    | (go_at_call 11; (with_reducible refine (K2.out _ _ (by omega) _ (KR.out _ _ (by simp))).mono ?_); rintro e w2 ⟨A2, c2, rfl, hx2⟩; have HX : Hid (∀ ob ob2, Ext w1 ((w2.alloc ob).alloc ob2)) := Lib.hid fun _ _ => ExtA (ExtA ((ExtA (Ext.rfl' w1)).tr hx2)))
    | (go_at_call 8; (with_reducible refine (K4.out _ _ _ _ _ (hr1.ext (HX.out _ _)) (KR.out _ _ (by simp))).mono ?_); rintro e w3 ⟨rfl, hx3⟩; have b3 : Blk w3 w2.heap.size 25 #[.int .i64 7, .int .i64 0, .int .i64 0, .int .i64 0, .int .i64 0, .slice A2 0 c2, .int .i64 0, .int .i64 0, .int .i64 0, .int .i64 0, .int .i64 0, .string ⟨#[]⟩] := BlkE (BlkA (BlkN rfl)) hx3; have d0 : w3.cell? ⟨w2.heap.size, 0, none⟩ = some (.int .i64 7) := b3.cell 0)
    | (with_reducible refine wpL_load_row_w (by kernel_rfl) 25 (.tmp 3) rfl _ 25 _ 12 rfl b3 st_wide (st_size' _ _ _ _ _ _ _ _ _ _ _ _ _ _) ?_)
    | (go_at_call 9; (with_reducible refine (K3.out _ _ _).mono ?_); rintro e w4 ⟨rfl, hx4⟩))
  go_ret
  exact ⟨rfl, (by repeat (first | with_reducible exact Below.refl _ _ | with_reducible assumption | with_reducible refine ExtD ?_ | with_reducible refine ExtDN ?_ | with_reducible refine ExtA ?_ | (with_reducible refine ExtR ?_ ?_; (first | omega | (dsimp only; omega) | (simp; done) | (simp; omega))) | (with_reducible refine ExtS ?_ ?_; (first | omega | (dsimp only; omega) | (simp; done) | (simp; omega))) | with_reducible refine Ext.tr ?_ (by with_reducible assumption)))⟩
end Go.Proofs.YtipdilmlodakoaaGreat
