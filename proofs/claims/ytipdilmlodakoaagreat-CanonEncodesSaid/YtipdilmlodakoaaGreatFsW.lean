/-
  Lists of fields in memory, and the walk of tlv.Encode.
-/
import Derived.Test.YtipdilmlodakoaaGreatPutW
import Derived.Deep.MidRow
namespace Go.Proofs.YtipdilmlodakoaaGreat
open Go.RowKit
set_option linter.unusedVariables false
set_option linter.unusedSimpArgs false
abbrev Held := Fld × Option Addr × Nat
def fsCells (hs : List Held) : List Value := hs.flatMap fun h => (fcells h.1 h.2.1 h.2.2).toList
/-- A slice of fields that reads as fs. -/
def FsRd (w : World) (A : Option Addr) (n : Nat) (fs : List Fld) : Prop :=
  ∃ hs : List Held, hs.map (·.1) = fs ∧ RdN w 4 A n (fsCells hs) ∧ ∀ h ∈ hs, Rd w h.2.1 h.1.bytes.length (u8s h.1.bytes)
theorem fsCells_len (hs : List Held) : (fsCells hs).length = hs.length * 4 := by
  induction hs with
  | nil => rfl
  | cons h r ih => simp only [fsCells, List.flatMap_cons, List.length_append] at ih ⊢; rw [ih]; simp [fcells]; omega
theorem fsCells_app (hs gs : List Held) : fsCells (hs ++ gs) = fsCells hs ++ fsCells gs := by simp [fsCells]
theorem fsCells_at (hs : List Held) (k j : Nat) (h : Held) (hk : hs[k]? = some h) (hj : j < 4) : (fsCells hs)[k * 4 + j]? = (fcells h.1 h.2.1 h.2.2).toList[j]? := by
  induction hs generalizing k with
  | nil => simp at hk
  | cons g r ih =>
    have e : fsCells (g :: r) = (fcells g.1 g.2.1 g.2.2).toList ++ fsCells r := by simp [fsCells]
    rw [e]
    cases k with
    | zero =>
      simp at hk
      subst hk
      rw [List.getElem?_append_left (by simp [fcells]; omega)]
      simp
    | succ k =>
      rw [List.getElem?_append_right (by simp [fcells]; omega)]
      have : (k + 1) * 4 + j - (fcells g.1 g.2.1 g.2.2).toList.length = k * 4 + j := by simp [fcells]; omega
      rw [this]
      exact ih k (by simpa using hk)
theorem FsRd.len {w : World} {A : Option Addr} {n : Nat} {fs : List Fld} (h : FsRd w A n fs) : fs.length = n := by
  obtain ⟨hs, rfl, h1, _⟩ := h
  have := h1.1
  rw [fsCells_len] at this
  simp; omega
theorem FsRd.ext {w w' : World} {A : Option Addr} {n : Nat} {fs : List Fld} (h : FsRd w A n fs) (hx : Ext w w') : FsRd w' A n fs := by
  obtain ⟨hs, h0, h1, h2⟩ := h
  exact ⟨hs, h0, h1.ext hx, fun g hg => (h2 g hg).ext hx⟩
theorem fs_at {w : World} {A : Option Addr} {n k : Nat} {fs : List Fld} (h : FsRd w A n fs) (hk : k < n) :
    ∃ b o f Af cf, fs[k]? = some f ∧ A = some ⟨b, o, none⟩ ∧ w.rangeAt b (o + k * 4) (fcells f Af cf).toList ∧ Rd w Af f.bytes.length (u8s f.bytes) := by
  have hl := h.len
  obtain ⟨hs, rfl, h1, h2⟩ := h
  obtain ⟨b, o, e, hc⟩ := h1.2 (by omega)
  simp at hl
  have hg : hs[k]? = some hs[k] := List.getElem?_eq_getElem (by omega)
  refine ⟨b, o, hs[k].1, hs[k].2.1, hs[k].2.2, by simp [hg], e, fun j v hv => ?_, h2 _ (List.getElem_mem _)⟩
  have hj : j < 4 := by
    have := (List.getElem?_eq_some_iff.1 hv).1
    simpa [fcells] using this
  rw [Nat.add_assoc]
  exact hc _ _ (by rw [fsCells_at hs k j _ hg hj]; exact hv)
section
variable {w : World}
theorem wpL_load_fld {ops : Array Oper} {rest : List Oper} {op : Oper} {a : Act} {Q : Exit → Act → World → Prop} (hgd : op.guard = none) (x : Operand) (ho : op.op = .load 70 x)
    (b o : Nat) (hx : a.eval x = .pointer (some ⟨b, o, none⟩)) (cs : Array Value) (hc : w.rangeAt b o cs.toList) (hsz : cs.size = 4)
    (h : wpList Tryz.prog ops Q rest (a.put op.dst (.agg cs)) w) : wpList Tryz.prog ops Q (op :: rest) a w := by
  obtain ⟨⟨d, hu, hd⟩, hi⟩ := fld_wide
  exact wpList_load_mid hgd 70 x ho b o hx cs.toList d hc hu (by revert hd; cases d <;> simp [TypeDesc.isRow]) (by rw [Array.length_toList, hsz]; exact hi) h
end
theorem alloc_fld (w : World) : (Instr.alloc 70 true (.tuple #[])).run Tryz.prog w = .ok (.pointer (some ⟨w.heap.size, 0, none⟩)) (w.alloc (.cells (fcells noFld none 0) 70)) := by kernel_rfl
def TEncR (W : World) (fs : List Fld) (c4 c5 c11 : Value) (wr : World) : Prop :=
  ∃ (k : Nat) (A : Option Addr) (c : Nat), c11 = .int .i64 k ∧ k ≤ fs.length ∧ c5 = .int .i64 (lastT (fs.take k)) ∧ c4 = .slice A (encB (fs.take k)).length c ∧ faults 0 (fs.take k) = 0 ∧
    Ext W wr ∧ wr.ownsRow W.heap.size 5 1 (.slice A (encB (fs.take k)).length c) (encB (fs.take k)).length (u8s (encB (fs.take k)))
/-- What Encode answers. -/
def EncPost (W : World) (fs : List Fld) (e : Ending) (w' : World) : Prop :=
  ∃ A c, e = .returned (.tuple #[.slice A (encR fs).length c, .int .i64 (encE fs : Nat)]) ∧ Ext W w' ∧ w'.ownsRow W.heap.size 5 1 (.slice A (encR fs).length c) (encR fs).length (u8s (encR fs))
theorem enc_bad {fs : List Fld} {e : Nat} (h : faults 0 fs = e) (he : e ≠ 0) : encE fs = e ∧ encR fs = [] := by
  have h1 : encE fs = e := by unfold encE; rw [h, if_pos he]
  exact ⟨h1, by unfold encR; rw [h1, if_neg he]⟩
set_option maxRecDepth 100000 in
set_option maxHeartbeats 2000000 in
theorem tenc_any (A : Option Addr) (n c : Nat) (fs : List Fld) (w : World) (hr : FsRd w A n fs) (hw : FWf fs) (hn : n ≤ maxLen) :
    Calls Tryz.prog 44 #[.slice A n c] w (EncPost w fs) := by
  unfold maxLen at hn
  have Hlen := Lib.hid hr.len
  have Hal := Lib.hid alloc_fld
  go_enter Tryz.func44, Tryz.ntmps44
  go_wp2_with fail
  go_loopw [4, 5, 11] (fun c4 c5 c11 wr => TEncR w fs c4 c5 c11 wr) (fun _ _ c11 _ => n - (intOf c11).toNat)
  case atStart => exact ⟨0, none, 0, rfl, by omega, rfl, rfl, rfl, (by repeat (first | with_reducible exact Below.refl _ _ | with_reducible assumption | with_reducible refine ExtD ?_ | with_reducible refine ExtDN ?_ | with_reducible refine ExtA ?_ | (with_reducible refine ExtR ?_ ?_; (first | omega | (dsimp only; omega) | (simp; done) | (simp; omega))) | (with_reducible refine ExtS ?_ ?_; (first | omega | (dsimp only; omega) | (simp; done) | (simp; omega))) | with_reducible refine Ext.tr ?_ (by with_reducible assumption))), World.ownsRow_nil _ _ _ _⟩
  case round =>
    obtain ⟨k, A1, c1, rfl, hk, rfl, rfl, hf, hx, hown⟩ := hrel
    have Hk := Lib.hid hk
    have Hf := Lib.hid hf
    clear hk hf
    by_cases hlt : k < n
    · obtain ⟨b, o, f, Af, cf, hfk, rfl, hc, hrf⟩ := fs_at hr hlt
      have Hc := Lib.hid (range_ext hc hx)
      have Hfk := Lib.hid hfk
      clear hc hfk
      obtain ⟨pre, hpre⟩ : ∃ pre, pre = fs.take k := ⟨_, rfl⟩
      rw [← hpre] at hown Hf ⊢
      have Hpre := Lib.hid hpre
      clear hpre
      obtain ⟨F, hF⟩ : ∃ F, F = fault f (lastT pre) := ⟨_, rfl⟩
      have hfw : f.wf := hw f (List.mem_of_getElem? Hfk.out)
      have Hs := Lib.hid (show fs.take (k + 1) = pre ++ [f] by rw [Hpre.out, List.take_add_one, Hfk.out]; rfl)
      have HF := Lib.hid hF
      have kc : ∀ W, Calls Tryz.prog 59 #[.agg (fcells f Af cf), .int .i64 (lastT pre)] W fun e w' => e = .returned (.int .i64 (F : Nat)) ∧ Ext W w' := fun W => by
        have := check_any f Af cf (lastT pre) W; unfold FaultPost at this; rw [← HF.out] at this; exact this
      have Kc := Lib.hid kc
      clear kc hF
      have hal := Hal.out
      by_cases h0 : F = 0
      · subst h0
        obtain ⟨f1, f2, f3, f4, f5⟩ := fault_ok HF.out.symm
        have hpb := (faults_bound pre (fun g hg => hw g (by rw [Hpre.out] at hg; exact List.mem_of_mem_take hg)) Hf.out)
        have hpl : (encB pre).length ≤ 100000 := by omega
        have Hput : Hid (∀ w1, Ext wr w1 → Calls Tryz.prog 60 #[.slice A1 (encB pre).length c1, .agg (fcells f Af cf)] w1 (NewB w (encB pre ++ one f))) := Lib.hid fun w1 h1 =>
          put_any w w1 f Af cf A1 _ c1 (encB pre) (hx.tr h1) (own_ext h1 hown) hrf f1 f2 hfw.2.2 (by
            cases ht : f.text with
            | false => exact .inr rfl
            | true => exact .inl (f4 ht).2) hpl
        clear hpb hpl
        go_wp2_with (first
          | refine wpL_load_fld rfl (.tmp 13) rfl b (o + k * 4) rfl (fcells f Af cf) Hc.out rfl ?_
          | refine wpL_store_new rfl 70 (.tmp 7) (.tmp 14) rfl wr.heap.size 70 (fcells noFld none 0) (fcells f Af cf) rfl rfl rfl rfl (fcells_one f Af cf) 4 fld_wide rfl ?_
          | (refine wpL_load_row (o := ⟨some 15, _, _, _, _, _⟩) rfl 70 (.tmp 7) rfl wr.heap.size 70 (fcells f Af cf) 4 rfl (BlkN rfl) fld_wide rfl ?_)
          | (go_at_call 59; go_must (with_reducible refine (Kc.out _).mono ?_); rintro e w1 ⟨rfl, hx1⟩; have b1 : Blk w1 wr.heap.size 70 (fcells f Af cf) := hx1.blk (BlkN rfl); have e0 : w1.cell? ⟨wr.heap.size, 0, none⟩ = some (.int .i64 f.tag) := b1.cell 0; have hxw : Ext wr w1 := (by repeat (first | with_reducible exact Below.refl _ _ | with_reducible assumption | with_reducible refine ExtD ?_ | with_reducible refine ExtDN ?_ | with_reducible refine ExtA ?_ | (with_reducible refine ExtR ?_ ?_; (first | omega | (dsimp only; omega) | (simp; done) | (simp; omega))) | (with_reducible refine ExtS ?_ ?_; (first | omega | (dsimp only; omega) | (simp; done) | (simp; omega))) | with_reducible refine Ext.tr ?_ (by with_reducible assumption))))
          | (refine wpL_load_row (o := ⟨some 24, _, _, _, _, _⟩) rfl 70 (.tmp 7) rfl wr.heap.size 70 (fcells f Af cf) 4 rfl b1 fld_wide rfl ?_)
          | (go_at_call 60; go_must (with_reducible refine (Hput.out _ hxw).mono ?_); rintro e w2 ⟨A2, c2, rfl, hx2, hown2⟩))
        go_roundw
        case rel =>
          have e1 : fs.take (k + 1) = pre ++ [f] := Hs.out
          refine ⟨k + 1, A2, c2, by go_num, by have := Hlen.out; omega, by rw [e1, lastT_snoc], by rw [e1, encB_snoc, List.length_append], by rw [e1, faults_snoc Hf.out, ← HF.out], hx2, ?_⟩
          rw [e1, encB_snoc]
          exact hown2
        case measure => simp [intOf]; omega
      · have t0 : ((F : Int) != 0) = true := by simp; exact h0
        have Hb : Hid (encE fs = F ∧ encR fs = []) := Lib.hid (enc_bad (by
          have hk' : k < fs.length := by have := Hlen.out; omega
          have hf' : fs[k] = f := by have := Hfk.out; rw [List.getElem?_eq_getElem hk'] at this; simpa using this
          have h1 := faults_take (fs := fs) (k := k) hk' (by rw [← Hpre.out]; exact Hf.out) (by rw [hf', ← Hpre.out, ← HF.out]; exact h0)
          rw [hf', ← Hpre.out, ← HF.out] at h1
          exact h1) h0)
        clear h0
        go_wp2_with (first
          | refine wpL_load_fld rfl (.tmp 13) rfl b (o + k * 4) rfl (fcells f Af cf) Hc.out rfl ?_
          | refine wpL_store_new rfl 70 (.tmp 7) (.tmp 14) rfl wr.heap.size 70 (fcells noFld none 0) (fcells f Af cf) rfl rfl rfl rfl (fcells_one f Af cf) 4 fld_wide rfl ?_
          | refine wpL_load_row rfl 70 (.tmp 7) rfl wr.heap.size 70 (fcells f Af cf) 4 rfl (BlkN rfl) fld_wide rfl ?_
          | (go_at_call 59; go_must (with_reducible refine (Kc.out _).mono ?_); rintro e w1 ⟨rfl, hx1⟩))
        go_ret2
        unfold EncPost
        rw [Hb.out.1, Hb.out.2]
        exact ⟨none, 0, rfl, (by repeat (first | with_reducible exact Below.refl _ _ | with_reducible assumption | with_reducible refine ExtD ?_ | with_reducible refine ExtDN ?_ | with_reducible refine ExtA ?_ | (with_reducible refine ExtR ?_ ?_; (first | omega | (dsimp only; omega) | (simp; done) | (simp; omega))) | (with_reducible refine ExtS ?_ ?_; (first | omega | (dsimp only; omega) | (simp; done) | (simp; omega))) | with_reducible refine Ext.tr ?_ (by with_reducible assumption))), World.ownsRow_nil _ _ _ _⟩
    · obtain rfl : k = n := by have := Hk.out; have := Hlen.out; omega
      have htk : fs.take k = fs := List.take_of_length_le (by have := Hlen.out; omega)
      rw [htk] at hown Hf ⊢
      by_cases hbig : 1024 < (encB fs).length
      · have Hb : Hid (encE fs = 24 ∧ encR fs = []) := Lib.hid (by
          have h1 : encE fs = 24 := by unfold encE; rw [Hf.out, if_neg (by simp), if_pos hbig]
          exact ⟨h1, by unfold encR; rw [h1, if_neg (by decide)]⟩)
        clear htk
        go_wp2_with fail
        go_ret2
        unfold EncPost
        rw [Hb.out.1, Hb.out.2]
        exact ⟨none, 0, rfl, (by repeat (first | with_reducible exact Below.refl _ _ | with_reducible assumption | with_reducible refine ExtD ?_ | with_reducible refine ExtDN ?_ | with_reducible refine ExtA ?_ | (with_reducible refine ExtR ?_ ?_; (first | omega | (dsimp only; omega) | (simp; done) | (simp; omega))) | (with_reducible refine ExtS ?_ ?_; (first | omega | (dsimp only; omega) | (simp; done) | (simp; omega))) | with_reducible refine Ext.tr ?_ (by with_reducible assumption))), World.ownsRow_nil _ _ _ _⟩
      · have Hb : Hid (encE fs = 0 ∧ encR fs = encB fs) := Lib.hid (by
          have h1 : encE fs = 0 := by unfold encE; rw [Hf.out, if_neg (by simp), if_neg hbig]
          exact ⟨h1, by unfold encR; rw [h1, if_pos rfl]⟩)
        clear htk
        go_wp2_with fail
        go_ret2
        unfold EncPost
        rw [Hb.out.1, Hb.out.2]
        exact ⟨A1, c1, rfl, hx, hown⟩
end Go.Proofs.YtipdilmlodakoaaGreat
