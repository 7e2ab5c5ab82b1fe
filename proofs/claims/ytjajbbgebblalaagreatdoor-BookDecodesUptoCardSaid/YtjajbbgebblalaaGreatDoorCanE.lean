/-
  The walks of canon.Encode and canon.Size.
-/
/-
  The walk of the laws' head: one record that the document fixes.
-/
/-
  The walks of the reference's Nums, Text, Fields and Encode of a state.
-/
import Derived.Test.YtjajbbgebblalaaGreatDoorShrT
import Derived.Test.YtjajbbgebblalaaGreatDoorCanL
import Derived.Test.YtjajbbgebblalaaGreatDoorOrdS
import Derived.Test.YtjajbbgebblalaaGreatDoorCanD
import Derived.Test.YtjajbbgebblalaaGreatDoorOrdW
import Derived.Test.YtjajbbgebblalaaGreatDoorBytesW
import Derived.Test.YtjajbbgebblalaaGreatDoorFsX
import Derived.Test.YtjajbbgebblalaaGreatDoorOrdRa
import Derived.Deep.RegionHeld3
namespace Go.Proofs.YtjajbbgebblalaaGreatDoor
open Go.RowKit
set_option linter.unusedVariables false
set_option linter.unusedSimpArgs false
set_option maxRecDepth 100000 in
theorem ix10 (a b c d e f g h i j : Int) (k : Nat) (hk : k < 10) (W : World) : (Instr.index 202 (.agg #[.int .i64 a, .int .i64 b, .int .i64 c, .int .i64 d, .int .i64 e, .int .i64 f, .int .i64 g, .int .i64 h, .int .i64 i, .int .i64 j]) (.int .i64 (k : Nat))).run Tryz.prog W = .ok (.int .i64 ([a, b, c, d, e, f, g, h, i, j].getD k 0)) W := by
  have : k = 0 ∨ k = 1 ∨ k = 2 ∨ k = 3 ∨ k = 4 ∨ k = 5 ∨ k = 6 ∨ k = 7 ∨ k = 8 ∨ k = 9 := by omega
  rcases this with h | h | h | h | h | h | h | h | h | h <;> subst h <;> (simp [Instr.index, run_underlying Tryz.underlying202, asIntOf]; (try simp [part, run_underlying Tryz.underlying3]))
theorem kept_foldl (fs : List Fld) (st : List Fld × Nat) (h : Kept st) (hf : ∀ f ∈ fs, f.wf) : Kept (fs.foldl addW st) := by
  induction fs generalizing st with
  | nil => exact h
  | cons f r ih => exact ih _ (addW_kept h (hf f (List.mem_cons_self ..))) fun g hg => hf g (List.mem_cons_of_mem _ hg)
def numSt (s : St) (k : Nat) : List Fld × Nat := (numFs 1 ((numsOf s).take k)).foldl addW ([], 0)
def lineSt (s : St) (k : Nat) : List Fld × Nat := (lineFs 12 (s.lines.take k)).foldl addW (addW (numSt s 10) (whoF s))
theorem numSt_kept (s : St) (k : Nat) : Kept (numSt s k) := kept_foldl _ _ kept_nil fun f hf => by
  obtain ⟨a, b, c, d, e⟩ := mem_numFs hf
  have h2 : ((numsOf s).take k).length ≤ 10 := by rw [List.length_take]; exact Nat.min_le_right _ _
  exact ⟨by omega, by omega, e⟩
theorem lineSt_kept {s : St} (hs : s.lines.length ≤ 16) (k : Nat) : Kept (lineSt s k) := kept_foldl _ _ (addW_kept (numSt_kept s 10) ⟨by unfold whoF; dsimp only; omega, by unfold whoF; dsimp only; omega, by unfold whoF; dsimp only; omega⟩) fun f hf => by
  obtain ⟨a, b, c, d, e⟩ := mem_lineFs hf
  have h2 : (s.lines.take k).length ≤ s.lines.length := by rw [List.length_take]; exact Nat.min_le_right _ _
  exact ⟨by omega, by omega, by omega⟩
theorem numSt_succ (s : St) {k : Nat} (hk : k < 10) : numSt s (k + 1) = addW (numSt s k) ⟨1 + k, false, toU ((numsOf s)[k]'hk), []⟩ := by
  unfold numSt
  rw [numFs_take (l := numsOf s) hk, List.foldl_append]
  rfl
theorem lineSt_succ (s : St) {k : Nat} (hk : k < s.lines.length) : lineSt s (k + 1) = addW (lineSt s k) ⟨12 + k, true, 0, lineB s.lines[k]⟩ := by
  unfold lineSt
  rw [lineFs_take hk, List.foldl_append]
  rfl
theorem lineSt_zero (s : St) : lineSt s 0 = addW (numSt s 10) (whoF s) := by
  unfold lineSt
  rw [List.take_zero]
  simp only [lineFs, List.foldl_nil]
theorem lineSt_all {s : St} (h : VOk s) : lineSt s s.lines.length = (refF s, 0) := by
  rw [← fold_all h]
  unfold lineSt allF numSt
  have e : (numsOf s).take 10 = numsOf s := List.take_of_length_le (Nat.le_refl _)
  rw [List.foldl_append, List.foldl_cons, List.take_of_length_le (Nat.le_refl _), e]
theorem st_cells {w : World} {g : Nat} {s : St} {A : Option Addr} {c : Nat} (h : Blk w g 77 (stcells s A c)) :
    (w.cell? ⟨g, 0, none⟩ = some (.int .i64 s.order) ∧ w.cell? ⟨g, 1, none⟩ = some (.int .i64 s.status) ∧ w.cell? ⟨g, 2, none⟩ = some (.int .i64 s.prior) ∧ w.cell? ⟨g, 3, none⟩ = some (.int .i64 s.cur) ∧ w.cell? ⟨g, 4, none⟩ = some (.int .i64 s.tax) ∧ w.cell? ⟨g, 5, none⟩ = some (.slice A s.lines.length c)) ∧
    (w.cell? ⟨g, 6, none⟩ = some (.int .i64 s.paid) ∧ w.cell? ⟨g, 7, none⟩ = some (.int .i64 s.refunded) ∧ w.cell? ⟨g, 8, none⟩ = some (.int .i64 s.events) ∧ w.cell? ⟨g, 9, none⟩ = some (.int .i64 s.refused) ∧ w.cell? ⟨g, 10, none⟩ = some (.int .i64 s.stamp) ∧ w.cell? ⟨g, 11, none⟩ = some (.string s.who)) :=
  ⟨⟨h.cell 0, h.cell 1, h.cell 2, h.cell 3, h.cell 4, h.cell 5⟩, h.cell 6, h.cell 7, h.cell 8, h.cell 9, h.cell 10, h.cell 11⟩
def CE1 (W0 : World) (g : Nat) (s : St) (c34 : Value) (wr : World) : Prop := ∃ k : Nat, c34 = .int .i64 (k : Nat) ∧ k ≤ 10 ∧ WS W0 wr g (numSt s k)
def CE2 (W0 : World) (g : Nat) (s : St) (n : Nat) (c53 : Value) (wr : World) : Prop := ∃ k : Nat, c53 = .int .i64 (k : Nat) ∧ k ≤ n ∧ WS W0 wr g (lineSt s k)
def CanEPost (w : World) (s : St) (e : Ending) (w' : World) : Prop := ∃ A1 c1, e = .returned (.tuple #[.slice A1 (canE s).1.length c1, .int .i64 ((canE s).2 : Nat)]) ∧ Ext w w' ∧ w'.ownsRow w.heap.size 5 1 (.slice A1 (canE s).1.length c1) (canE s).1.length (u8s (canE s).1)
set_option maxRecDepth 100000 in
set_option maxHeartbeats 4000000 in
theorem cenc_any (s : St) (A : Option Addr) (c : Nat) (w : World) (hr : LsRd w A s.lines) (hn : s.lines.length ≤ 4611686018427387904) (hw : s.who.size ≤ 4611686018427387904) :
    Calls Tryz.prog 82 #[.agg (stcells s A c)] w (CanEPost w s) := by
  have KV := Lib.hid fun W (hx : Ext w W) => valid_any s A c W (hr.ext hx) hn hw
  by_cases hv : validB s = true
  · have hok := valid_iff.1 hv
    have hE := canE_ok hv
    have HA := Lib.hid (lineSt_all hok)
    have HE := Lib.hid hE
    have HK1 := Lib.hid (numSt_kept s)
    have HK2 := Lib.hid (lineSt_kept hok.len)
    have HS1 := Lib.hid fun k (hk : k < 10) => numSt_succ s hk
    have HS2 := Lib.hid fun k (hk : k < s.lines.length) => lineSt_succ s hk
    have HB := Lib.hid (numsOf_big hok)
    have HLn := Lib.hid hok.lines_ok
    have hw16 := who_len hok
    have hwl : s.who.data.toList.length = s.who.size := by rw [Array.length_toList]; rfl
    have Hn := Lib.hid (show s.lines.length ≤ 16 from hok.len)
    have Hfin := Lib.hid (refF_enc hok)
    have KT : Hid (∀ (W0 W : World) (g : Nat) (B : Option Addr) (cb : Nat), WS W0 W g (numSt s 10) → Rd W B s.who.size (u8s s.who.data.toList) → Calls Tryz.prog 122 #[.pointer (some ⟨g, 0, none⟩), .int .i64 11, .slice B s.who.size cb] W fun e w' => e = .returned (.pointer (some ⟨g, 0, none⟩)) ∧ WS W0 w' g (lineSt s 0)) := Lib.hid fun W0 W g B cb h hB => by
      have := wx_text h (numSt_kept s 10) 11 s.who.data.toList B cb (by rw [hwl]; exact hB) (by omega)
      rw [hwl] at this
      rw [lineSt_zero]
      exact this
    have HR := Lib.hid fun W (hx : Ext w W) => hr.ext hx
    have HC := Lib.hid fun W (hb : Ext (w.alloc (.cells (stcells s A c) 77)) W) => st_cells (s := s) (A := A) (c := c) (BlkE (BlkN (w := w) rfl) hb)
    rw [hv] at KV
    clear hv hok hE hw16 hwl hr hn hw
    unfold CanEPost
    unfold stcells at *
    go_enter Tryz.func82, Tryz.ntmps82
    go_wp2_with (first
      | (go_at_call 117; (with_reducible refine (KV.out _ (ExtA (Ext.rfl' _))).mono ?_); rintro e w1 ⟨rfl, hx1⟩)
      | (go_at_call 120; (with_reducible refine (newWriter_any _).mono ?_); rintro e w2 ⟨rfl, hx2, hb2⟩; have S2 := WS.mk0 hx2 hb2; have S2' := Lib.hid S2; clear S2; obtain ⟨⟨d0, d1, d2, d3, d4, d5⟩, d6, d7, d8, d9, d10, d11⟩ := HC.out w2 (hx1.tr hx2)))
    have hal := alloc_ln
    unfold lncells at hal
    dsimp only at hal
    go_loopw [34] (fun c34 wr => CE1 w1 w1.heap.size s c34 wr) (fun c34 _ => 10 - (intOf c34).toNat)
    case atStart => exact ⟨0, rfl, by omega, S2'.out⟩
    case round =>
      obtain ⟨k, rfl, hk, hS⟩ := hrel
      have HSk := Lib.hid hS
      clear hS
      by_cases hk10 : k < 10
      · have hix := ix10 s.order s.status s.prior s.cur s.tax s.paid s.refunded s.events s.refused s.stamp k hk10
        have hg : [s.order, s.status, s.prior, s.cur, s.tax, s.paid, s.refunded, s.events, s.refused, s.stamp].getD k 0 = (numsOf s)[k]'hk10 := by
          show (numsOf s).getD k 0 = _
          rw [List.getD_eq_getElem?_getD, List.getElem?_eq_getElem (show k < (numsOf s).length from hk10)]
          rfl
        rw [hg] at hix
        have hb := HB.out _ (List.getElem_mem (l := numsOf s) (n := k) hk10)
        have HS1k := Lib.hid (HS1.out k hk10)
        clear hg
        generalize (numsOf s)[k]'hk10 = v at *
        obtain ⟨m, rfl⟩ : ∃ m : Nat, v = (m : Int) := ⟨v.toNat, by omega⟩
        have hm : m < 4611686018427387904 := by omega
        rw [show toU (m : Int) = m by rw [toU_pos (by omega) (by omega)]; omega] at HS1k
        have K := Lib.hid (wx_num HSk.out (HK1.out k) (1 + (k : Int)) m)
        rw [← HS1k.out] at K
        clear hb
        go_wp2_with (go_at_call 121; (with_reducible refine (K.out).mono ?_); rintro e w3 ⟨rfl, hS3⟩; have S3 := Lib.hid hS3; clear hS3)
        go_roundw
        case rel => exact ⟨k + 1, by go_num, by omega, S3.out⟩
        case measure => simp [intOf]; omega
      · obtain rfl : k = 10 := by omega
        have kb := fun W => bytes_run s.who W
        obtain ⟨⟨d0, d1, d2, d3, d4, d5⟩, d6, d7, d8, d9, d10, d11⟩ := HC.out wr (hx1.tr HSk.out.x)
        go_wp2_with (go_at_call 122; (with_reducible refine (KT.out _ _ _ _ _ (HSk.out.up (bytes_ext s.who wr)) (bytes_rd s.who wr)).mono ?_); rintro e w4 ⟨rfl, hS4⟩; have S4 := Lib.hid hS4; clear hS4; obtain ⟨⟨d0, d1, d2, d3, d4, d5⟩, d6, d7, d8, d9, d10, d11⟩ := HC.out w4 (hx1.tr S4.out.x))
        clear HSk hk hk10 kb
        go_loopw [53] (fun c53 wr => CE2 w1 w1.heap.size s s.lines.length c53 wr) (fun c53 _ => s.lines.length - (intOf c53).toNat)
        case atStart => exact ⟨0, rfl, by omega, S4.out⟩
        case round =>
          obtain ⟨k, rfl, hk, hS⟩ := hrel
          have HSk := Lib.hid hS
          clear hS
          rename World => wy
          clear d0 d1 d2 d3 d4 d5 d6 d7 d8 d9 d10 d11
          have hn16 : s.lines.length ≤ 16 := Hn.out
          by_cases hlt : k < s.lines.length
          · have hxw : Ext w wy := (ExtA (Ext.rfl' w)).tr (hx1.tr HSk.out.x)
            obtain ⟨b, o, rfl, hc⟩ := ls_at (HR.out wy hxw) hlt
            have Hc := Lib.hid hc
            have HS2k := Lib.hid (HS2.out k hlt)
            have hl := HLn.out _ (List.getElem_mem hlt)
            clear hc
            generalize s.lines[k] = l at *
            have KL := Lib.hid fun W => line_any l hl W
            have KT2 : Hid (∀ W B cb, Ext wy W → Rd W B (lineB l).length (u8s (lineB l)) → Calls Tryz.prog 122 #[.pointer (some ⟨w1.heap.size, 0, none⟩), .int .i64 (12 + (k : Int)), .slice B (lineB l).length cb] W fun e w' => e = .returned (.pointer (some ⟨w1.heap.size, 0, none⟩)) ∧ WS w1 w' w1.heap.size (lineSt s (k + 1))) := Lib.hid fun W B cb hx hB => by
              have := wx_text (HSk.out.up hx) (HK2.out k) (12 + (k : Int)) (lineB l) B cb hB (by have := lineB_len hl; omega)
              rw [HS2k.out]
              exact this
            unfold lncells at Hc
            have e0 : wy.cell? ⟨b, o + k * 4, none⟩ = some (.int .i64 l.item) := Hc.out 0 _ rfl
            have e1 : wy.cell? ⟨b, o + k * 4 + 1, none⟩ = some (.int .i64 l.price) := Hc.out 1 _ rfl
            have e2 : wy.cell? ⟨b, o + k * 4 + 2, none⟩ = some (.int .i64 l.qty) := Hc.out 2 _ rfl
            have e3 : wy.cell? ⟨b, o + k * 4 + 3, none⟩ = some (.int .i64 l.shipped) := Hc.out 3 _ rfl
            have Hl := Lib.hid hl
            clear hl HS2k
            go_wp2_with (first
              | (go_at_call 123; (with_reducible refine (KL.out _).mono ?_); rintro e w6 ⟨A6, c6, rfl, hx6, ho6⟩; have O6 := Lib.hid ho6; clear ho6; have hw6 : Ext wy w6 := exA)
              | (go_at_call 122; (with_reducible refine (KT2.out _ _ _ hw6 (rd_own O6.out)).mono ?_); rintro e w7 ⟨rfl, hS7⟩; have S7 := Lib.hid hS7; clear hS7))
            go_roundw
            case rel => exact ⟨k + 1, by go_num, by omega, S7.out⟩
            case measure => simp [intOf]; omega
          · obtain rfl : k = s.lines.length := by omega
            have KD := wx_done HSk.out (HK2.out s.lines.length)
            rw [HA.out] at KD
            simp only [if_true, Hfin.out] at KD
            have KD2 := Lib.hid KD
            clear KD
            go_wp2_with (go_at_call 124; (with_reducible refine (KD2.out).mono ?_); rintro e w5 ⟨A1, c1, rfl, hx5, ho5⟩; have O5 := Lib.hid ho5; clear ho5)
            go_ret2
            rw [HE.out]
            have hxw : Ext w wy := (ExtA (Ext.rfl' w)).tr (hx1.tr HSk.out.x)
            exact ⟨A1, c1, rfl, hxw.tr hx5, own_base O5.out hxw.size⟩
  · have hvf : validB s = false := by simpa using hv
    have HE : Hid (canE s = ([], 40)) := Lib.hid (by unfold canE; rw [if_neg hv])
    rw [hvf] at KV
    clear hr hn hw hv hvf
    unfold CanEPost
    rw [HE.out]
    unfold stcells at *
    go_enter Tryz.func82, Tryz.ntmps82
    go_wp2_with (go_at_call 117; (with_reducible refine (KV.out _ (ExtA (Ext.rfl' _))).mono ?_); rintro e w1 ⟨rfl, hx1⟩)
    go_ret2
    exact ⟨none, 0, rfl, exA, World.ownsRow_nil _ _ _ _⟩
end Go.Proofs.YtjajbbgebblalaaGreatDoor

namespace Go.Proofs.YtjajbbgebblalaaGreatDoor
open Go.RowKit
set_option linter.unusedVariables false
set_option linter.unusedSimpArgs false
end Go.Proofs.YtjajbbgebblalaaGreatDoor

namespace Go.Proofs.YtjajbbgebblalaaGreatDoor
open Go.RowKit
set_option linter.unusedVariables false
set_option linter.unusedSimpArgs false
section
variable {w : World}
theorem step_appendB {ops : Array Oper} {o : Oper} {a : Act} {K : Act → World → Prop} {Q : Exit → Act → World → Prop} {E : Prop} (hgd : o.guard = none) (d : Option Tmp) (hd : o.dst = d) (s x : Operand)
    (ho : o.op = .call { callee := .builtin .append, args := #[s, x], argTypes := #[36, 36] }) (W : World)
    {A0 : Option Addr} {n0 c0 : Nat} {l : List UInt8} (hs : a.eval s = .slice A0 n0 c0) (hown : w.ownsRow W.heap.size 5 1 (.slice A0 n0 c0) n0 (u8s l)) (hW : Ext W w)
    {A : Option Addr} {m c : Nat} {news : List UInt8} (hx : a.eval x = .slice A m c) (hr : Rd w A m (u8s news)) (hb : l.length + news.length ≤ 140737488355328)
    (hK : ∀ A' n' c' w', Ext W w' → Hid (n' = (l ++ news).length) → w'.ownsRow W.heap.size 5 1 (.slice A' n' c') n' (u8s (l ++ news)) → K (a.put d (.slice A' n' c')) w') :
    if Region.wanted o (yielded ops a.tmps) = true then Oper.wp Tryz.prog o a w K Q else E := by
  subst hd
  have hw : Region.wanted o (yielded ops a.tmps) = true := by simp [Region.wanted, hgd]
  rw [if_pos hw]
  have e1 : n0 = l.length := own_len hown
  have e2 : news.length = m := by have := hr.1; rw [u8s_len] at this; exact this
  obtain ⟨v', w', hrun, r1, r2, _⟩ := run_append_rd (P := Tryz.prog) W.heap.size 36 o.type 5 _ 1 1 Tryz.underlying36 el_u8 _ n0 _ hown A m c _ hr.toN (one_u8 _) (by simp only [maxLen]; omega) (by omega) hW.size
  obtain ⟨A', c', rfl⟩ := own_slice r1
  unfold Oper.wp
  simp [execOp, ho, resolve, invoke, builtin, hs, hx, hrun, Result.andThen]
  exact hK A' _ c' w' (Ext.grown hW r2 fun g hg' => own_lt hown g hg') (Lib.hid (by rw [List.length_append]; omega)) (by rw [u8s_app]; exact r1)
end
theorem u64w (m : Nat) (h : m < 18446744073709551616) : IntKind.u64.wrap (m : Int) = m := by rw [IntKind.wrap_u64]; omega
set_option maxRecDepth 100000 in
set_option maxHeartbeats 2000000 in
theorem ltext_any (l : Ln) (hl : lnB l = true) (w : World) : Calls Tryz.prog 158 #[.agg #[.int .i64 l.item, .int .i64 l.price, .int .i64 l.qty, .int .i64 l.shipped]] w (NewB w (lineB l)) := by
  rw [lnB_iff] at hl
  rw [lineB_eq]
  obtain ⟨i, p, q, s⟩ := l
  dsimp only at hl ⊢
  obtain ⟨i, rfl⟩ : ∃ m : Nat, i = (m : Int) := ⟨i.toNat, by omega⟩
  obtain ⟨p, rfl⟩ : ∃ m : Nat, p = (m : Int) := ⟨p.toNat, by omega⟩
  obtain ⟨q, rfl⟩ : ∃ m : Nat, q = (m : Int) := ⟨q.toNat, by omega⟩
  obtain ⟨s, rfl⟩ : ∃ m : Nat, s = (m : Int) := ⟨s.toNat, by omega⟩
  have ht : ∀ m : Nat, m ≤ 100000000 → toU (m : Int) = m := fun m h => by rw [toU_pos (by omega) (by omega)]; omega
  rw [ht i (by omega), ht p (by omega), ht q (by omega), ht s (by omega)]
  have w1 := u64w i (by omega)
  have w2 := u64w p (by omega)
  have w3 := u64w q (by omega)
  have w4 := u64w s (by omega)
  have K := Lib.hid fun (m : Nat) (W : World) (h : m ≤ 100000000) => rvenc_any m W (by omega)
  have HL := Lib.hid fun (m : Nat) (h : m ≤ 100000000) => venc_len10 m (by omega)
  have hi : i ≤ 100000000 := by omega
  have hp : p ≤ 100000000 := by omega
  have hq : q ≤ 100000000 := by omega
  have hs : s ≤ 100000000 := by omega
  clear hl ht
  unfold NewB
  go_enter Tryz.func158, Tryz.ntmps158
  go_wp2_with fail
  have b0 : Blk (w.alloc (.cells #[.int .i64 (i : Nat), .int .i64 (p : Nat), .int .i64 (q : Nat), .int .i64 (s : Nat)] 79)) w.heap.size 79 #[.int .i64 (i : Nat), .int .i64 (p : Nat), .int .i64 (q : Nat), .int .i64 (s : Nat)] := BlkN rfl
  have hx0 : Ext w (w.alloc (.cells #[.int .i64 (i : Nat), .int .i64 (p : Nat), .int .i64 (q : Nat), .int .i64 (s : Nat)] 79)) := exA
  generalize w.alloc (.cells #[.int .i64 (i : Nat), .int .i64 (p : Nat), .int .i64 (q : Nat), .int .i64 (s : Nat)] 79) = w0 at *
  have HS := Lib.hid fun (w' : World) (h : Ext w0 w') => (⟨(BlkE b0 h).cell 0, (BlkE b0 h).cell 1, (BlkE b0 h).cell 2, (BlkE b0 h).cell 3⟩ : (fun w' : World => w'.cell? ⟨w.heap.size, 0, none⟩ = some (.int .i64 (i : Nat)) ∧ w'.cell? ⟨w.heap.size, 1, none⟩ = some (.int .i64 (p : Nat)) ∧ w'.cell? ⟨w.heap.size, 2, none⟩ = some (.int .i64 (q : Nat)) ∧ w'.cell? ⟨w.heap.size, 3, none⟩ = some (.int .i64 (s : Nat))) w')
  go_region_held3 (fun w' : World => w'.cell? ⟨w.heap.size, 0, none⟩ = some (.int .i64 (i : Nat)) ∧ w'.cell? ⟨w.heap.size, 1, none⟩ = some (.int .i64 (p : Nat)) ∧ w'.cell? ⟨w.heap.size, 2, none⟩ = some (.int .i64 (q : Nat)) ∧ w'.cell? ⟨w.heap.size, 3, none⟩ = some (.int .i64 (s : Nat))) (exact HS.out _ exA)
    (first
      | (go_at_call 76; (with_reducible refine (K.out i _ hi).mono ?_); rintro e x1 ⟨B1, d1, rfl, hy1, ho1⟩)
      | (go_at_call 76; (with_reducible refine (K.out p _ hp).mono ?_); rintro e x2 ⟨B2, d2, rfl, hy2, ho2⟩)
      | (refine step_appendB rfl (some 11) rfl (.tmp 6) (.tmp 10) rfl w0 (by rfl) (own_base (own_ext hy2 ho1) (Nat.le_refl _)) exA (by rfl) (rd_own ho2) (by have := HL.out i hi; have := HL.out p hp; omega) ?_; intro A3 n3 c3 x3 hx3 hn3 ho3)
      | (go_at_call 76; (with_reducible refine (K.out q _ hq).mono ?_); rintro e x4 ⟨B4, d4, rfl, hy4, ho4⟩)
      | (refine step_appendB rfl (some 16) rfl (.tmp 11) (.tmp 15) rfl w0 (by rfl) (own_ext hy4 ho3) exA (by rfl) (rd_own ho4) (by have := HL.out i hi; have := HL.out p hp; have := HL.out q hq; simp only [List.length_append]; omega) ?_; intro A5 n5 c5 x5 hx5 hn5 ho5)
      | (go_at_call 76; (with_reducible refine (K.out s _ hs).mono ?_); rintro e x6 ⟨B6, d6, rfl, hy6, ho6⟩)
      | (refine step_appendB rfl (some 21) rfl (.tmp 16) (.tmp 20) rfl w0 (by rfl) (own_ext hy6 ho5) exA (by rfl) (rd_own ho6) (by have := HL.out i hi; have := HL.out p hp; have := HL.out q hq; have := HL.out s hs; simp only [List.length_append]; omega) ?_; intro A7 n7 c7 x7 hx7 hn7 ho7))
  go_wp2_with fail
  go_ret
  rw [hn7.out] at ho7 ⊢
  rw [List.append_assoc, List.append_assoc] at ho7 ⊢
  exact ⟨A7, c7, rfl, hx0.tr hx7, own_base ho7 hx0.size⟩
def numRow (s : St) : Array Value := #[.int .i64 0, .int .i64 s.order, .int .i64 s.status, .int .i64 s.prior, .int .i64 s.cur, .int .i64 s.tax, .int .i64 s.paid, .int .i64 s.refunded, .int .i64 s.events, .int .i64 s.refused, .int .i64 s.stamp]
set_option maxRecDepth 100000 in
set_option maxHeartbeats 1000000 in
theorem rnums_any (s : St) (A : Option Addr) (c : Nat) (w : World) : Calls Tryz.prog 157 #[.agg (stcells s A c)] w fun e w' => ∃ g, e = .returned (.slice (some ⟨g, 0, none⟩) 11 11) ∧ Ext w w' ∧ w.heap.size ≤ g ∧ Blk w' g 3 (numRow s) := by
  unfold stcells numRow
  go_enter Tryz.func157, Tryz.ntmps157
  go_wp2_with fail
  go_ret
  exact ⟨w.heap.size + 1, rfl, exA, by omega, bkA⟩
theorem numRow_at (s : St) {T : Nat} (h1 : 1 ≤ T) (h2 : T ≤ 10) : (numRow s)[T]? = some (.int .i64 ((numsOf s).getD (T - 1) 0)) := by
  have : T = 1 ∨ T = 2 ∨ T = 3 ∨ T = 4 ∨ T = 5 ∨ T = 6 ∨ T = 7 ∨ T = 8 ∨ T = 9 ∨ T = 10 := by omega
  rcases this with h | h | h | h | h | h | h | h | h | h <;> subst h <;> rfl
def nP (s : St) (T : Nat) : List Fld := (numFs 1 ((numsOf s).take (T - 1))).filter holds
def wP (s : St) : List Fld := nP s 11 ++ (if s.who.size = 0 then [] else [whoF s])
def lP (s : St) (k : Nat) : List Fld := wP s ++ lineFs 12 (s.lines.take k)
theorem nP_succ (s : St) {T : Nat} (h1 : 1 ≤ T) (h2 : T ≤ 10) (hb : ∀ v ∈ numsOf s, 0 ≤ v ∧ v < 4611686018427387904) : nP s (T + 1) = nP s T ++ (if (numsOf s).getD (T - 1) 0 = 0 then [] else [⟨(T : Int), false, toU ((numsOf s).getD (T - 1) 0), []⟩]) := by
  have hk : T - 1 < (numsOf s).length := by simp [numsOf]; omega
  have h := numFs_take (t := 1) (l := numsOf s) hk
  unfold nP
  rw [show T + 1 - 1 = T - 1 + 1 by omega, h, List.filter_append]
  have hg : (numsOf s).getD (T - 1) 0 = (numsOf s)[T - 1] := by rw [List.getD_eq_getElem?_getD, List.getElem?_eq_getElem hk]; rfl
  have hv := hb _ (List.getElem_mem hk)
  rw [hg]
  generalize (numsOf s)[T - 1] = v at *
  congr 1
  have ht : (1 : Int) + ((T - 1 : Nat) : Int) = (T : Int) := by omega
  rw [ht]
  by_cases h0 : v = 0
  · subst h0
    simp [holds, toU]
  · rw [if_neg h0]
    have : toU v ≠ 0 := by rw [toU_pos (by omega) (by omega)]; omega
    simp [holds, this]
theorem nP_len (s : St) (T : Nat) : (nP s T).length ≤ 10 := by
  unfold nP
  refine Nat.le_trans (List.length_filter_le _ _) ?_
  rw [numFs_len, List.length_take]
  exact Nat.min_le_right _ _
theorem wP_len (s : St) : (wP s).length ≤ 11 := by
  unfold wP
  have := nP_len s 11
  rw [List.length_append]
  split <;> simp <;> omega
theorem lP_len {s : St} (h : s.lines.length ≤ 16) (k : Nat) : (lP s k).length ≤ 27 := by
  unfold lP
  have := wP_len s
  rw [List.length_append, lineFs_len, List.length_take]
  omega
theorem lP_succ (s : St) {k : Nat} (hk : k < s.lines.length) : lP s (k + 1) = lP s k ++ [⟨12 + (k : Int), true, 0, lineB s.lines[k]⟩] := by
  unfold lP
  rw [lineFs_take hk, List.append_assoc]
theorem lineB_ne (l : Ln) : lineB l ≠ [] := by
  rw [lineB_eq]
  have := venc_pos (toU l.item)
  intro h
  rw [(List.append_eq_nil_iff.1 h).1] at this
  simp at this
theorem lines_hold (t : Int) (l : List Ln) : (lineFs t l).filter holds = lineFs t l := by
  refine List.filter_eq_self.2 fun f hf => ?_
  obtain ⟨_, _, h3, _, x, _, h5⟩ := mem_lineFs hf
  unfold holds
  rw [h3, h5]
  have := lineB_ne x
  cases h : lineB x
  · exact absurd h this
  · rfl
theorem lP_all (s : St) : lP s s.lines.length = refF s := by
  unfold lP wP nP refF allF
  rw [List.take_of_length_le (Nat.le_refl _), List.filter_append, List.filter_cons, lines_hold]
  have e : (numsOf s).take (11 - 1) = numsOf s := List.take_of_length_le (by simp [numsOf])
  rw [e, List.append_assoc]
  congr 1
  have hl : s.who.data.toList.length = s.who.size := by rw [Array.length_toList]; rfl
  have hh : holds (whoF s) = !s.who.data.toList.isEmpty := rfl
  rw [hh]
  by_cases h : s.who.size = 0
  · have : s.who.data.toList = [] := List.eq_nil_of_length_eq_zero (by omega)
    rw [if_pos h, this]
    rfl
  · have : s.who.data.toList ≠ [] := fun hc => by rw [hc] at hl; simp at hl; omega
    rw [if_neg h]
    cases hc : s.who.data.toList
    · exact absurd hc this
    · rfl
/-- The bytes of a field that is held: they read, in a block of bytes. -/
def HB (w : World) (h : Held) : Prop := Rd w h.2.1 h.1.bytes.length (u8s h.1.bytes) ∧ (0 < h.1.bytes.length → ∃ g o cs m, h.2.1 = some ⟨g, o, none⟩ ∧ w.heap[g]? = some (.cells cs 5 m))
theorem heap_lt {w : World} {g : Nat} {x : Obj} (h : w.heap[g]? = some x) : g < w.heap.size := (Array.getElem?_eq_some_iff.1 h).1
theorem HB.ext {w w' : World} {h : Held} (hb : HB w h) (hx : Ext w w') : HB w' h :=
  ⟨hb.1.ext hx, fun h0 => by
    obtain ⟨g, o, cs, m, h1, h2⟩ := hb.2 h0
    exact ⟨g, o, cs, m, h1, (hx.block g (heap_lt h2)).trans h2⟩⟩
theorem HB.grown {w w' : World} {h : Held} {base n : Nat} {v : Value} {xs : List Value} (hb : HB w h) (ho : w.ownsRow base 210 4 v n xs) (hg : w.grownBy w' v.ownBlock) : HB w' h := by
  by_cases h0 : 0 < h.1.bytes.length
  · obtain ⟨g, o, cs, m, h1, h2⟩ := hb.2 h0
    have hne : some g ≠ v.ownBlock := fun hc => by
      rcases ho.2 with ⟨hv, _⟩ | ⟨g2, cap, cur, hv, _, hg2, _⟩
      · rw [hv] at hc; cases hc
      · rw [hv] at hc
        simp only [Value.ownBlock, Option.some.injEq] at hc
        subst hc
        rw [h2] at hg2
        simp at hg2
    refine ⟨⟨hb.1.1, fun hn => ?_⟩, fun _ => ⟨g, o, cs, m, h1, (hg.block g (heap_lt h2) hne).trans h2⟩⟩
    obtain ⟨b, q, e, hc⟩ := hb.1.2 hn
    rw [h1] at e
    injection e with e
    injection e with e1 e2
    subst e1 e2
    exact ⟨g, o, h1, fun j u hu => (hg.cell_far _ (heap_lt h2) hne).trans (hc j u hu)⟩
  · have hz : h.1.bytes.length = 0 := by omega
    refine ⟨⟨hb.1.1, fun hn => by omega⟩, fun hn => by omega⟩
theorem HB.own {w : World} {base : Nat} {f : Fld} {A : Option Addr} {c : Nat} (ho : w.ownsRow base 5 1 (.slice A f.bytes.length c) f.bytes.length (u8s f.bytes)) : HB w (f, A, c) := by
  refine ⟨rd_own ho, fun h0 => ?_⟩
  rcases ho.2 with ⟨hv, h1⟩ | ⟨g2, cap, cur, hv, _, hg2, _⟩
  · dsimp only at h0; omega
  · injection hv with hA _ _
    exact ⟨g2, 0, cur, (0, 0), hA, hg2⟩
def FdP (w : World) (g : Nat) (s : St) (A0 : Option Addr) (c0 : Nat) (fs : List Fld) (c3 : Value) (wr : World) : Prop :=
  ∃ A c hs, c3 = .slice A fs.length c ∧ hs.map (·.1) = fs ∧ Ext w wr ∧ wr.ownsRow w.heap.size 210 4 (.slice A fs.length c) fs.length (fsCells hs) ∧ (∀ h ∈ hs, HB wr h) ∧ Blk wr g 3 (numRow s) ∧ Blk wr w.heap.size 77 (stcells s A0 c0)
theorem fdP_snoc {w wr w2 w3 : World} {g : Nat} {s : St} {A0 : Option Addr} {c0 : Nat} {fs fs' : List Fld} {f : Fld} {A A3 Af : Option Addr} {c c3 cf n3 : Nat} {hs : List Held}
    (hm : hs.map (·.1) = fs) (hb : ∀ h ∈ hs, HB wr h) (h1 : Blk wr g 3 (numRow s)) (h2 : Blk wr w.heap.size 77 (stcells s A0 c0)) (he : fs' = fs ++ [f])
    (hx : Ext wr w2) (ho2 : w2.ownsRow w.heap.size 210 4 (.slice A fs.length c) fs.length (fsCells hs)) (hbf : HB w2 (f, Af, cf))
    (hx3 : Ext w w3) (hn3 : Hid (n3 = hs.length + [(f, Af, cf)].length)) (hown3 : w3.ownsRow w.heap.size 210 4 (.slice A3 n3 c3) n3 (fsCells (hs ++ [(f, Af, cf)]))) (hk3 : ∀ g t cs, t ≠ 210 → Blk w2 g t cs → Blk w3 g t cs)
    (hg3 : w2.grownBy w3 (Value.slice A fs.length c).ownBlock) : FdP w g s A0 c0 fs' (.slice A3 n3 c3) w3 := by
  have hl : n3 = fs'.length := by
    rw [hn3.out, he, List.length_append, ← hm, List.length_map]; rfl
  subst hl
  refine ⟨A3, c3, hs ++ [(f, Af, cf)], rfl, by rw [he, List.map_append, hm]; rfl, hx3, hown3, fun h hh => ?_, hk3 _ _ _ (by decide) (BlkE h1 hx), hk3 _ _ _ (by decide) (BlkE h2 hx)⟩
  rcases List.mem_append.1 hh with hh | hh
  · exact ((hb h hh).ext hx).grown ho2 hg3
  · rw [List.mem_singleton.1 hh]
    exact hbf.grown ho2 hg3
theorem hb_none (w : World) (T : Int) (m : Nat) : HB w (⟨T, false, m, []⟩, none, 0) := ⟨Rd.nil_ _ _, fun h => by simp at h⟩
theorem own_emptyD (w : World) (base g : Nat) (hg : w.heap.size = g) (hb : base ≤ g) : (w.alloc (.cells #[] 210)).ownsRow base 210 4 (.slice (some ⟨g, 0, none⟩) 0 0) 0 (fsCells []) := by
  subst hg
  exact own_new w base #[] _ 0 hb (by decide) rfl
def FdR1 (w : World) (g : Nat) (s : St) (A0 : Option Addr) (c0 : Nat) (c3 c5 : Value) (wr : World) : Prop := ∃ T : Nat, c5 = .int .i64 (T : Nat) ∧ 1 ≤ T ∧ T ≤ 11 ∧ FdP w g s A0 c0 (nP s T) c3 wr
def FdR2 (w : World) (g : Nat) (s : St) (A0 : Option Addr) (c0 : Nat) (c3 c42 : Value) (wr : World) : Prop := ∃ k : Nat, c42 = .int .i64 (k : Nat) ∧ k ≤ s.lines.length ∧ FdP w g s A0 c0 (lP s k) c3 wr
def FdPost (w : World) (s : St) (e : Ending) (w' : World) : Prop := ∃ A c, e = .returned (.slice A (refF s).length c) ∧ Ext w w' ∧ FsRd w' A (refF s).length (refF s)
set_option maxRecDepth 100000 in
set_option maxHeartbeats 4000000 in
theorem rfields_any (s : St) (A0 : Option Addr) (c0 : Nat) (w : World) (hr : LsRd w A0 s.lines) (hv : VOk s) :
    Calls Tryz.prog 116 #[.agg (stcells s A0 c0)] w (FdPost w s) := by
  have KN := Lib.hid fun W => rnums_any s A0 c0 W
  have HR := Lib.hid fun W (hx : Ext w W) => hr.ext hx
  have HB' := Lib.hid (numsOf_big hv)
  have HLn := Lib.hid hv.lines_ok
  have Hn := Lib.hid (show s.lines.length ≤ 16 from hv.len)
  have Hw := Lib.hid (who_len hv)
  have hal := alloc_fld
  unfold fcells at hal
  dsimp only [noFld] at hal
  have hwl : s.who.data.toList.length = s.who.size := by rw [Array.length_toList]; rfl
  have Hwl := Lib.hid hwl
  clear hr hv hwl
  unfold stcells at KN
  have S0 : Hid (∀ cs, cs = stcells s A0 c0 → Blk ((w.alloc (.cells cs 77)).alloc (.cells #[] 210)) w.heap.size 77 (stcells s A0 c0) ∧ Ext w ((w.alloc (.cells cs 77)).alloc (.cells #[] 210)) ∧ ((w.alloc (.cells cs 77)).alloc (.cells #[] 210)).ownsRow w.heap.size 210 4 (.slice (some ⟨w.heap.size + 1, 0, none⟩) 0 0) 0 (fsCells [])) := Lib.hid fun cs h => by
    subst h
    exact ⟨BlkA (BlkN rfl), ExtA (ExtA (Ext.rfl' _)), own_emptyD _ _ _ (by simp) (by omega)⟩
  go_enter Tryz.func116, Tryz.ntmps116
  have S1 := S0.out _ rfl
  unfold stcells at S1 ⊢
  go_wp2_with (first
    | (go_at_call 157; (with_reducible refine (KN.out _).mono ?_); rintro e w1 ⟨g, rfl, hx1, hg, hb1⟩))
  obtain ⟨q1, q2, q3⟩ := S1
  have b0 : Blk w1 w.heap.size 77 (stcells s A0 c0) := BlkE q1 hx1
  have hX1 : Ext w w1 := q2.tr hx1
  have o0 := own_ext hx1 q3
  clear q1 q2 q3 S0 hx1
  go_loopw [3, 5] (fun c3 c5 wr => FdR1 w g s A0 c0 c3 c5 wr) (fun _ c5 _ => 11 - (intOf c5).toNat)
  case atStart => exact ⟨1, rfl, by omega, by omega, some ⟨w.heap.size + 1, 0, none⟩, 0, [], rfl, rfl, hX1, o0, (fun h hh => by cases hh), hb1, b0⟩
  case round =>
    obtain ⟨T, rfl, hT1, hT2, A, c, hs, rfl, hm, hx, ho, hb, h1, h2⟩ := hrel
    have HM := Lib.hid hm
    have HX := Lib.hid hx
    have HO := Lib.hid ho
    have HBs := Lib.hid hb
    have HB1 := Lib.hid h1
    have HB2 := Lib.hid h2
    have Hlen := Lib.hid (show hs.length = (nP s T).length by rw [← hm, List.length_map])
    have Hl10 := Lib.hid (nP_len s T)
    by_cases hlt : T ≤ 10
    · have e0 : wr.cell? ⟨g, T, none⟩ = some (.int .i64 ((numsOf s).getD (T - 1) 0)) := (h1.cell T).trans (numRow_at s hT1 hlt)
      have hst := Lib.hid (nP_succ s hT1 hlt HB'.out)
      have hvb : 0 ≤ (numsOf s).getD (T - 1) 0 ∧ (numsOf s).getD (T - 1) 0 < 4611686018427387904 := by
        have hk : T - 1 < (numsOf s).length := by simp [numsOf]; omega
        rw [List.getD_eq_getElem?_getD, List.getElem?_eq_getElem hk]
        exact HB'.out _ (List.getElem_mem hk)
      generalize (numsOf s).getD (T - 1) 0 = v at *
      obtain ⟨m, rfl⟩ : ∃ m : Nat, v = (m : Int) := ⟨v.toNat, by omega⟩
      have hm2 : m < 4611686018427387904 := by omega
      clear hm hx ho hb h1 h2 hvb
      by_cases h0 : m = 0
      · subst h0
        have hst2 : Hid (nP s (T + 1) = nP s T) := Lib.hid (by rw [hst.out]; simp)
        clear hst
        go_wp2_with fail
        go_roundw
        case rel => exact ⟨T + 1, by go_num, by omega, by omega, A, c, hs, by rw [hst2.out], by rw [hst2.out]; exact HM.out, HX.out, by rw [hst2.out]; exact HO.out, HBs.out, HB1.out, HB2.out⟩
        case measure => simp [intOf]; omega
      · have hst2 : Hid (nP s (T + 1) = nP s T ++ [⟨(T : Int), false, m, []⟩]) := Lib.hid (by
          rw [hst.out, if_neg (by omega)]
          have : toU (m : Int) = m := by rw [toU_pos (by omega) (by omega)]; omega
          rw [this])
        have t0 : ((m : Int) != 0) = true := by simp; omega
        have w1 := u64w m (by omega)
        clear hst h0
        have hX2 : ∀ ob, Ext wr (wr.alloc ob) := fun ob => ExtA (Ext.rfl' _)
        have hX3 : ∀ ob, Ext w (wr.alloc ob) := fun ob => ExtA HX.out
        have HX2 := Lib.hid hX2
        have HX3 := Lib.hid hX3
        clear hX2 hX3
        generalize hN : (nP s T).length = N at *
        go_wp2_with (at_builtin; go_must (refine wpF_append rfl (.tmp 19) (.tmp 27) rfl w rfl (own_ext (HX2.out _) HO.out) (HX3.out _) rfl (rdF_new _ _ ⟨(T : Int), false, m, []⟩ none 0 (by simp)) (by have := Hlen.out; have := Hl10.out; simp; omega) ?_); intro A3 n3 c3 w3 hx3 hn3 hown3 hk3 hu3 hg3)
        go_roundw
        case rel =>
          subst hN
          exact ⟨T + 1, by go_num, by omega, by omega, fdP_snoc HM.out HBs.out HB1.out HB2.out hst2.out (HX2.out _) (own_ext (HX2.out _) HO.out) (hb_none _ _ _) hx3 hn3 hown3 hk3 hg3⟩
        case measure => simp [intOf]; omega
    · obtain rfl : T = 11 := by omega
      clear hm hx ho hb h1 h2
      have c11 : wr.cell? ⟨w.heap.size, 11, none⟩ = some (.string s.who) := HB2.out.cell 11
      have hN10 : (nP s 11).length ≤ 10 := Hl10.out
      go_upto_if 31 with fail
      go_cut [3] (fun c3 wc => FdP w g s A0 c0 (wP s) c3 wc)
      case first =>
        by_cases hw0 : s.who.size = 0
        · have t31 : s.who.toList.isEmpty = true := by rw [who_empty]; simpa using hw0
          have hwP : Hid (wP s = nP s 11) := Lib.hid (by unfold wP; rw [if_pos hw0, List.append_nil])
          clear hw0
          rw [t31]
          go_wp2_with fail
          go_meet
          case rel => rw [hwP.out]; exact ⟨A, c, hs, rfl, HM.out, HX.out, HO.out, HBs.out, HB1.out, HB2.out⟩
        · have t31 : s.who.toList.isEmpty = false := by rw [who_empty]; simpa using hw0
          have hwP : Hid (wP s = nP s 11 ++ [whoF s]) := Lib.hid (by unfold wP; rw [if_neg hw0])
          have kb := fun W => bytes_run s.who W
          have KX := Lib.hid (bytes_ext s.who wr)
          have KR : Hid (∀ (W : World) g A c, W.heap.size = g → RdN (W.alloc (.cells #[.int .i64 11, .bool true, .int .u64 0, .slice A s.who.size c] 210)) 4 (some ⟨g, 0, none⟩) 1 (fsCells [(whoF s, A, c)])) := Lib.hid fun W g A c h => by
            have := rdF_new W g (whoF s) A c h
            rw [show (whoF s).bytes.length = s.who.size from Hwl.out] at this
            exact this
          have KH : Hid (∀ c, HB (Lib.bytesWorld wr 5 s.who) (whoF s, some ⟨wr.heap.size, 0, none⟩, c)) := Lib.hid fun c => ⟨by
            show Rd _ _ s.who.data.toList.length (u8s s.who.data.toList)
            rw [Hwl.out]
            exact bytes_rd s.who wr, fun _ => ⟨wr.heap.size, 0, _, _, rfl, Lib.bytesWorld_at_new wr 5 s.who⟩⟩
          clear hw0
          generalize hN : (nP s 11).length = N at *
          rw [t31]
          have HX2 : Hid (∀ ob, Ext wr ((Lib.bytesWorld wr 5 s.who).alloc ob)) := Lib.hid fun ob => ExtA KX.out
          have HX3 : Hid (∀ ob, Ext w ((Lib.bytesWorld wr 5 s.who).alloc ob)) := Lib.hid fun ob => ExtA (HX.out.tr KX.out)
          go_wp2_with (at_builtin; go_must (refine wpF_append rfl (.tmp 32) (.tmp 37) rfl w rfl (own_ext (HX2.out _) HO.out) (HX3.out _) rfl (KR.out _ _ _ _ (by simp)) (by have := Hlen.out; simp; omega) ?_); intro A3 n3 c3 w3 hx3 hn3 hown3 hk3 hu3 hg3)
          go_meet
          case rel =>
            subst hN
            exact fdP_snoc HM.out HBs.out HB1.out HB2.out hwP.out (HX2.out _) (own_ext (HX2.out _) HO.out) ((KH.out _).ext (ExtA (Ext.rfl' _))) hx3 hn3 hown3 hk3 hg3
      case rest =>
        clear c11 HM HX HO HBs HB1 HB2 Hlen Hl10 hN10
        have h0 : FdP w g s A0 c0 (lP s 0) u3 wc := by
          have : lP s 0 = wP s := by unfold lP; rw [List.take_zero]; simp only [lineFs, List.append_nil]
          rw [this]; exact hcut
        have c5 : wc.cell? ⟨w.heap.size, 5, none⟩ = some (.slice A0 s.lines.length c0) := by
          obtain ⟨_, _, _, _, _, _, _, _, _, hb2⟩ := hcut
          exact hb2.cell 5
        have H0 := Lib.hid h0
        clear hcut h0
        rw [show ((11 : Nat) : Int) = 11 from rfl]
        go_wp2_with fail
        clear c5
        go_loopw [3, 6, 42] (fun c3 _ c42 wr => FdR2 w g s A0 c0 c3 c42 wr) (fun _ _ c42 _ => s.lines.length - (intOf c42).toNat)
        case atStart => exact ⟨0, rfl, Nat.zero_le _, H0.out⟩
        case round =>
          obtain ⟨k, rfl, hk, A, c, hs, rfl, hm, hx, ho, hb, h1, h2⟩ := hrel
          rename World => wy
          have HM := Lib.hid hm
          have HX := Lib.hid hx
          have HO := Lib.hid ho
          have HBs := Lib.hid hb
          have HB1 := Lib.hid h1
          have HB2 := Lib.hid h2
          have Hlen := Lib.hid (show hs.length = (lP s k).length by rw [← hm, List.length_map])
          have Hl := Lib.hid (lP_len Hn.out k)
          have hn16 : s.lines.length ≤ 16 := Hn.out
          by_cases hlt : k < s.lines.length
          · obtain ⟨b, o, rfl, hc⟩ := ls_at (HR.out wy hx) hlt
            have Hc := Lib.hid hc
            have hst := Lib.hid (lP_succ s hlt)
            have hl := HLn.out _ (List.getElem_mem hlt)
            have c5 : wy.cell? ⟨w.heap.size, 5, none⟩ = some (.slice (some ⟨b, o, none⟩) s.lines.length c0) := h2.cell 5
            clear hc hm hx ho hb h1 h2
            generalize s.lines[k] = l at *
            have KL := Lib.hid fun W => ltext_any l hl W
            have HLl := Lib.hid (lineB_len hl)
            unfold NewB at KL
            unfold lncells at Hc
            have e0 : wy.cell? ⟨b, o + k * 4, none⟩ = some (.int .i64 l.item) := Hc.out 0 _ rfl
            have e1 : wy.cell? ⟨b, o + k * 4 + 1, none⟩ = some (.int .i64 l.price) := Hc.out 1 _ rfl
            have e2 : wy.cell? ⟨b, o + k * 4 + 2, none⟩ = some (.int .i64 l.qty) := Hc.out 2 _ rfl
            have e3 : wy.cell? ⟨b, o + k * 4 + 3, none⟩ = some (.int .i64 l.shipped) := Hc.out 3 _ rfl
            have HQ : Hid (∀ (W : World) A c g, W.heap.size = g → RdN (W.alloc (.cells #[.int .i64 (12 + (k : Int)), .bool true, .int .u64 0, .slice A (lineB l).length c] 210)) 4 (some ⟨g, 0, none⟩) 1 (fsCells [(⟨12 + (k : Int), true, 0, lineB l⟩, A, c)])) := Lib.hid fun W A c g h => rdF_new W g ⟨12 + (k : Int), true, 0, lineB l⟩ A c h
            have HF : Hid (∀ (W : World) A c, W.ownsRow wy.heap.size 5 1 (.slice A (lineB l).length c) (lineB l).length (u8s (lineB l)) → HB W (⟨12 + (k : Int), true, 0, lineB l⟩, A, c)) := Lib.hid fun W A c h => HB.own (f := ⟨12 + (k : Int), true, 0, lineB l⟩) h
            clear hl
            generalize lineB l = lb at *
            generalize hN : (lP s k).length = N at *
            generalize hM : lb.length = M at *
            go_wp2_with (first
              | (go_at_call 158; (with_reducible refine (KL.out _).mono ?_); rintro e w2 ⟨A2, c2, rfl, hx2, hown2⟩; have HX2 : Hid (∀ ob, Ext wy (w2.alloc ob)) := Lib.hid fun ob => ExtA hx2; have HX3 : Hid (∀ ob, Ext w (w2.alloc ob)) := Lib.hid fun ob => ExtA (HX.out.tr hx2))
              | (at_builtin; go_must (refine wpF_append rfl (.tmp 45) (.tmp 55) rfl w rfl (own_ext (HX2.out _) HO.out) (HX3.out _) rfl (HQ.out _ _ _ _ (by simp)) (by have := Hlen.out; have := Hl.out; simp; omega) ?_); intro A3 n3 c3 w3 hx3 hn3 hown3 hk3 hu3 hg3))
            go_roundw
            case rel =>
              have hbf := (HF.out _ _ _ hown2).ext (ExtA (o := .cells #[.int .i64 (12 + (k : Int)), .bool true, .int .u64 0, .slice A2 M c2] 210) (Ext.rfl' w2))
              subst hN
              exact ⟨k + 1, by go_num, by omega, fdP_snoc HM.out HBs.out HB1.out HB2.out hst.out (HX2.out _) (own_ext (HX2.out _) HO.out) hbf hx3 hn3 hown3 hk3 hg3⟩
            case measure => simp [intOf]; omega
          · obtain rfl : k = s.lines.length := by omega
            clear hm hx ho hb h1 h2
            have HA := lP_all s
            have hM := HM.out
            have hO := HO.out
            rw [HA] at hM hO ⊢
            have HM2 := Lib.hid hM
            have HO2 := Lib.hid hO
            clear hM hO HA HM HO Hlen Hl
            go_wp2_with fail
            go_ret
            exact ⟨A, c, rfl, HX.out, hs, HM2.out, RdN.of_own HO2.out, fun h hh => (HBs.out h hh).1⟩
set_option maxRecDepth 100000 in
set_option maxHeartbeats 2000000 in
theorem renc9_any (s : St) (A : Option Addr) (c : Nat) (w : World) (hr : LsRd w A s.lines) (hn : s.lines.length ≤ 4611686018427387904) (hw : s.who.size ≤ 4611686018427387904) :
    Calls Tryz.prog 77 #[.agg (stcells s A c)] w (CanEPost w s) := by
  have KV := Lib.hid fun W (hx : Ext w W) => rvalid_any s A c W (hr.ext hx) hn hw
  have b0 : Blk (w.alloc (.cells (stcells s A c) 77)) w.heap.size 77 (stcells s A c) := BlkN rfl
  cases hv : validB s with
  | true =>
    have hok := valid_iff.1 hv
    have hE := canE_ok hv
    have HE := Lib.hid hE
    have hfe := refF_enc hok
    have KF := Lib.hid fun W (hx : Ext w W) => rfields_any s A c W (hr.ext hx) hok
    have KE := Lib.hid fun W B cb (h : FsRd W B (refF s).length (refF s)) => renc_any B _ cb (refF s) W h (refF_wf hok) (by have := lP_len hok.len s.lines.length; rw [lP_all] at this; simp only [maxLen]; omega)
    unfold FdPost at KF
    unfold EncPost at KE
    rw [hfe] at KE
    rw [hv] at KV
    clear hv hok hE hr hn hw hfe
    unfold CanEPost
    generalize hG : (refF s).length = m at *
    go_enter Tryz.func77, Tryz.ntmps77
    go_wp2_with (first
      | (with_reducible refine wpL_load_row rfl 77 (.tmp 1) rfl _ 77 _ 12 rfl b0 st_wide (st12_size _ _ _) ?_)
      | (go_at_call 114; (with_reducible refine (KV.out _ (ExtA (Ext.rfl' _))).mono ?_); rintro e w1 ⟨rfl, hx1⟩; have b1 := BlkE b0 hx1; have hX1 : Ext w w1 := exA)
      | (with_reducible refine wpL_load_row rfl 77 (.tmp 1) rfl _ 77 _ 12 rfl b1 st_wide (st12_size _ _ _) ?_)
      | (go_at_call 116; (with_reducible refine (KF.out _ hX1).mono ?_); rintro e w2 ⟨A2, c2, rfl, hx2, hf2⟩; have F2 := Lib.hid hf2; clear hf2)
      | (go_at_call 115; (with_reducible refine (KE.out _ _ _ F2.out).mono ?_); rintro e w3 ⟨A3, c3, rfl, hx3, ho3⟩; have O3 := Lib.hid ho3; clear ho3; have hX3 : Ext w w3 := exA))
    go_ret2
    rw [HE.out]
    have hz : w.heap.size ≤ w2.heap.size := (hX1.tr hx2).size
    exact ⟨A3, c3, rfl, hX3, own_base O3.out hz⟩
  | false =>
    have hE : canE s = ([], 40) := by unfold canE; rw [if_neg (by rw [hv]; simp)]
    have HE := Lib.hid hE
    rw [hv] at KV
    clear hv hE hr hn hw
    unfold CanEPost
    go_enter Tryz.func77, Tryz.ntmps77
    go_wp2_with (first
      | (with_reducible refine wpL_load_row rfl 77 (.tmp 1) rfl _ 77 _ 12 rfl b0 st_wide (st12_size _ _ _) ?_)
      | (go_at_call 114; (with_reducible refine (KV.out _ (ExtA (Ext.rfl' _))).mono ?_); rintro e w1 ⟨rfl, hx1⟩))
    go_ret2
    rw [HE.out]
    exact ⟨none, 0, rfl, exA, World.ownsRow_nil _ _ _ _⟩
end Go.Proofs.YtjajbbgebblalaaGreatDoor
