/-
  The walk of the reference's Encode of fields.
-/
import Derived.Test.YtjajbbgebblalaaGreatDoorFsW
namespace Go.Proofs.YtjajbbgebblalaaGreatDoor
open Go.RowKit
set_option linter.unusedVariables false
set_option linter.unusedSimpArgs false
set_option maxRecDepth 100000 in
set_option maxHeartbeats 2000000 in
theorem renc_any (A : Option Addr) (n c : Nat) (fs : List Fld) (w : World) (hr : FsRd w A n fs) (hw : FWf fs) (hn : n ≤ maxLen) :
    Calls Tryz.prog 115 #[.slice A n c] w (EncPost w fs) := by
  unfold maxLen at hn
  have Hlen := Lib.hid hr.len
  go_enter Tryz.func115, Tryz.ntmps115
  go_wp2_with fail
  go_loopw [4, 5, 11] (fun c4 c5 c11 wr => TEncR w fs c5 c4 c11 wr) (fun _ _ c11 _ => n - (intOf c11).toNat)
  case atStart => exact ⟨0, _, _, rfl, by omega, rfl, rfl, rfl, (by repeat (first | with_reducible exact Below.refl _ _ | with_reducible assumption | with_reducible refine ExtD ?_ | with_reducible refine ExtDN ?_ | with_reducible refine ExtA ?_ | (with_reducible refine ExtR ?_ ?_; (first | omega | (dsimp only; omega) | (simp; done) | (simp; omega))) | (with_reducible refine ExtS ?_ ?_; (first | omega | (dsimp only; omega) | (simp; done) | (simp; omega))) | with_reducible refine Ext.tr ?_ (by with_reducible assumption))), own_empty w⟩
  case round =>
    obtain ⟨k, A1, c1, rfl, hk, rfl, rfl, hf, hx, hown⟩ := hrel
    have Hk := Lib.hid hk
    have Hf := Lib.hid hf
    clear hk hf
    by_cases hlt : k < n
    · obtain ⟨b, o, f, Af, cf, hfk, rfl, hc, hrf⟩ := fs_at hr hlt
      have Hc := Lib.hid hc
      have Hfk := Lib.hid hfk
      clear hc hfk
      obtain ⟨pre, hpre⟩ : ∃ pre, pre = fs.take k := ⟨_, rfl⟩
      rw [← hpre] at hown Hf ⊢
      have Hpre := Lib.hid hpre
      clear hpre
      obtain ⟨F, hF⟩ : ∃ F, F = fault f (lastT pre) := ⟨_, rfl⟩
      have hfw : f.wf := hw f (List.mem_of_getElem? Hfk.out)
      have Hs := Lib.hid (show fs.take (k + 1) = pre ++ [f] by rw [Hpre.out, List.take_add_one, Hfk.out]; rfl)
      have HF := Lib.hid hF
      have kc : ∀ W, Calls Tryz.prog 155 #[.agg (fcells f Af cf), .int .i64 (lastT pre)] W fun e w' => e = .returned (.int .i64 (F : Nat)) ∧ Ext W w' := fun W => by
        have := fault_any f Af cf (lastT pre) W; unfold FaultPost at this; rw [← HF.out] at this; exact this
      have Kc := Lib.hid kc
      clear kc hF
      by_cases h0 : F = 0
      · subst h0
        obtain ⟨f1, f2, f3, f4, f5⟩ := fault_ok HF.out.symm
        have hpb := (faults_bound pre (fun g hg => hw g (by rw [Hpre.out] at hg; exact List.mem_of_mem_take hg)) Hf.out)
        have Hpl : Hid ((encB pre).length ≤ 100000) := Lib.hid (by omega)
        have Hol : Hid ((one f).length ≤ 220) := Lib.hid (one_len hfw HF.out.symm).1
        have Hone : Hid (∀ w1, Ext wr w1 → Calls Tryz.prog 156 #[.agg (fcells f Af cf)] w1 (NewB w1 (one f))) := Lib.hid fun w1 h1 =>
          one_any w1 f Af cf (hrf.ext (hx.tr h1)) f1 f2 hfw.2.2 (by
            cases ht : f.text with
            | false => exact .inr rfl
            | true => exact .inl (f4 ht).2)
        clear hpb
        go_wp2_with (first
          | refine wpL_load_fld (op := ⟨some 17, _, _, _, _, _⟩) rfl (.tmp 16) rfl b (o + k * 4) rfl (fcells f Af cf) (range_ext Hc.out hx) rfl ?_
          | (go_at_call 155; go_must (with_reducible refine (Kc.out _).mono ?_); rintro e w1 ⟨rfl, hx1⟩; have Hd := Lib.hid (range_ext Hc.out (hx.tr hx1)); have e0 : w1.cell? ⟨b, o + k * 4, none⟩ = some (.int .i64 f.tag) := Hd.out 0 _ rfl)
          | (refine wpL_load_fld (op := ⟨some 32, _, _, _, _, _⟩) rfl (.tmp 31) rfl b (o + k * 4) rfl (fcells f Af cf) Hd.out rfl ?_)
          | (go_at_call 156; go_must (with_reducible refine (Hone.out _ hx1).mono ?_); rintro e w2 ⟨A2, c2, rfl, hx2, hown2⟩)
          | (at_builtin; (refine wpB_append rfl (.tmp 28) (.tmp 33) rfl w rfl (own_ext (hx1.tr hx2) hown) (hx.tr (hx1.tr hx2)) rfl (rd_own hown2) (by have := Hpl.out; have := Hol.out; omega) ?_); intro A3 n3 c3 w3 hx3 hn3 hown3 hk3 hg3))
        go_roundw
        case rel =>
          have e1 : fs.take (k + 1) = pre ++ [f] := Hs.out
          rw [hn3.out] at hown3 ⊢
          refine ⟨k + 1, A3, c3, by go_num, by have := Hlen.out; omega, by rw [e1, lastT_snoc], by rw [e1, encB_snoc], by rw [e1, faults_snoc Hf.out, ← HF.out], hx3, ?_⟩
          rw [e1, encB_snoc]
          exact hown3
        case measure => simp [intOf]; omega
      · have t0 : ((F : Int) != 0) = true := by simp; exact h0
        have Hb : Hid (encE fs = F ∧ encR fs = []) := Lib.hid (enc_bad (by
          have hk' : k < fs.length := by have := Hlen.out; omega
          have hf' : fs[k] = f := by have := Hfk.out; rw [List.getElem?_eq_getElem hk'] at this; simpa using this
          have h1 := faults_take (fs := fs) (k := k) hk' (by rw [← Hpre.out]; exact Hf.out) (by rw [hf', ← Hpre.out, ← HF.out]; exact h0)
          rw [hf', ← Hpre.out, ← HF.out] at h1
          exact h1) h0)
        clear h0
        go_wp2_with (first
          | refine wpL_load_fld rfl (.tmp 16) rfl b (o + k * 4) rfl (fcells f Af cf) (range_ext Hc.out hx) rfl ?_
          | (go_at_call 155; go_must (with_reducible refine (Kc.out _).mono ?_); rintro e w1 ⟨rfl, hx1⟩))
        go_ret2
        unfold EncPost
        rw [Hb.out.1, Hb.out.2]
        exact ⟨none, 0, rfl, (by repeat (first | with_reducible exact Below.refl _ _ | with_reducible assumption | with_reducible refine ExtD ?_ | with_reducible refine ExtDN ?_ | with_reducible refine ExtA ?_ | (with_reducible refine ExtR ?_ ?_; (first | omega | (dsimp only; omega) | (simp; done) | (simp; omega))) | (with_reducible refine ExtS ?_ ?_; (first | omega | (dsimp only; omega) | (simp; done) | (simp; omega))) | with_reducible refine Ext.tr ?_ (by with_reducible assumption))), World.ownsRow_nil _ _ _ _⟩
    · obtain rfl : k = n := by have := Hk.out; have := Hlen.out; omega
      have htk : fs.take k = fs := List.take_of_length_le (by have := Hlen.out; omega)
      rw [htk] at hown Hf ⊢
      by_cases hbig : 1024 < (encB fs).length
      · have Hb : Hid (encE fs = 24 ∧ encR fs = []) := Lib.hid (by
          have h1 : encE fs = 24 := by unfold encE; rw [Hf.out, if_neg (by simp), if_pos hbig]
          exact ⟨h1, by unfold encR; rw [h1, if_neg (by decide)]⟩)
        clear htk
        go_wp2_with fail
        go_ret2
        unfold EncPost
        rw [Hb.out.1, Hb.out.2]
        exact ⟨none, 0, rfl, (by repeat (first | with_reducible exact Below.refl _ _ | with_reducible assumption | with_reducible refine ExtD ?_ | with_reducible refine ExtDN ?_ | with_reducible refine ExtA ?_ | (with_reducible refine ExtR ?_ ?_; (first | omega | (dsimp only; omega) | (simp; done) | (simp; omega))) | (with_reducible refine ExtS ?_ ?_; (first | omega | (dsimp only; omega) | (simp; done) | (simp; omega))) | with_reducible refine Ext.tr ?_ (by with_reducible assumption))), World.ownsRow_nil _ _ _ _⟩
      · have Hb : Hid (encE fs = 0 ∧ encR fs = encB fs) := Lib.hid (by
          have h1 : encE fs = 0 := by unfold encE; rw [Hf.out, if_neg (by simp), if_neg hbig]
          exact ⟨h1, by unfold encR; rw [h1, if_pos rfl]⟩)
        clear htk
        go_wp2_with fail
        go_ret2
        unfold EncPost
        rw [Hb.out.1, Hb.out.2]
        exact ⟨A1, c1, rfl, hx, hown⟩
end Go.Proofs.YtjajbbgebblalaaGreatDoor
