/-
  The walk of manifest.Save. (Written by wip/tools/gen_swb.py.)
-/
import Derived.Test.YtdoaniimfhpjhaaDoorSwP
import Derived.Test.YtdoaniimfhpjhaaDoorManE
namespace Go.Proofs.YtdoaniimfhpjhaaDoor
open Go.RowKit
set_option linter.unusedVariables false
set_option linter.unusedSimpArgs false
open Go.Maps
def saveD (d : Dk) (m : Mf) : Dk × Nat := if (manE m).2 ≠ 0 then (d, (manE m).2) else sv4 d (manE m).1
def svN (d : Dk) (b : List UInt8) : Nat → Dk × Nat
  | 0 => (d, 0)
  | 1 => sv1 d
  | 2 => sv2 d b
  | 3 => sv3 d b
  | _ => sv4 d b
def stpN (d : Dk) (b : List UInt8) : Nat → Dk × Nat
  | 0 => createD d nmT
  | 1 => appendD d nmT b
  | 2 => syncD d nmT
  | _ => renameD d nmT nmM
theorem svN_succ {d : Dk} {b : List UInt8} : ∀ k, k < 4 → (svN d b k).2 = 0 → svN d b (k + 1) = stpN (svN d b k).1 b k
  | 0, _, _ => rfl
  | 1, _, h => by show sv2 d b = _; unfold sv2; exact if_neg (by simpa [svN] using h)
  | 2, _, h => by show sv3 d b = _; unfold sv3; exact if_neg (by simpa [svN] using h)
  | 3, _, h => by show sv4 d b = _; unfold sv4; exact if_neg (by simpa [svN] using h)
  | k + 4, h, _ => absurd h (by omega)
theorem svN_stop {d : Dk} {b : List UInt8} : ∀ k, k < 4 → (svN d b (k + 1)).2 ≠ 0 → sv4 d b = svN d b (k + 1) := by
  have h3 : (sv3 d b).2 ≠ 0 → sv4 d b = sv3 d b := fun h => by unfold sv4; exact if_pos h
  have h2 : (sv2 d b).2 ≠ 0 → sv3 d b = sv2 d b := fun h => by unfold sv3; exact if_pos h
  have h1 : (sv1 d).2 ≠ 0 → sv2 d b = sv1 d := fun h => by unfold sv2; exact if_pos h
  intro k hk h
  match k, hk, h with
  | 0, _, h => have e1 := h1 h; have e2 := h2 (by rw [e1]; exact h); exact (h3 (by rw [e2, e1]; exact h)).trans (e2.trans e1)
  | 1, _, h => have e2 := h2 h; exact (h3 (by rw [e2]; exact h)).trans e2
  | 2, _, h => exact h3 h
  | 3, _, _ => rfl
  | k + 4, hk, _ => omega
theorem svN_inv {d : Dk} (h : DkInv d) (b : List UInt8) (k : Nat) : DkInv (svN d b k).1 := by
  obtain ⟨h1, h2, h3, h4⟩ := sv_inv h b
  unfold svN
  split <;> assumption
theorem svN_steps (d : Dk) (b : List UInt8) (k : Nat) (hk : k ≤ 4) : (svN d b k).1.steps ≤ d.steps + (k : Nat) := by
  obtain ⟨h1, h2, h3, h4⟩ := sv_steps d b
  match k, hk with
  | 0, _ => show d.steps ≤ _; omega
  | 1, _ => exact h1
  | 2, _ => exact h2
  | 3, _ => exact h3
  | 4, _ => exact h4
def SvR (W V : World) (g b : Nat) (hs : List HF) (d : Dk) (bs : List UInt8) (c26 : Value) (wr : World) : Prop :=
  ∃ k : Nat, c26 = .int .i64 (k : Nat) ∧ k ≤ 4 ∧ (svN d bs k).2 = 0 ∧ FsTo W V wr g b hs (svN d bs k).1
set_option maxRecDepth 100000 in
set_option maxHeartbeats 4000000 in
theorem save_any (m : Mf) (A : Option Addr) (c : Nat) (W w : World) (g b : Nat) (d : Dk) (D : DataW Value) (hs : List HF) (h : FsX W w g d b D hs) (hI : DkInv d) (hst : d.steps ≤ 4611686018427387900) (hN : Nib w) (hr : SgRd w A m.segs) (hl : m.segs.length ≤ 4398046510976) (hi : MI64 m.next) :
    Calls Tryd.prog 6 #[.pointer (some ⟨g, 0, none⟩), .agg (mfcells m A c)] w fun e w' => e = .returned (.int .i64 ((saveD d m).2 : Nat)) ∧ FsTo W w w' g b hs (saveD d m).1 := by
  have KE := Lib.hid fun W (hx : Ext w W) => menc_any m A c W (hN.ext hx) (hr.ext hx) hl hi
  unfold MePost at KE
  by_cases hE : (manE m).2 = 0
  · have hS : saveD d m = sv4 d (manE m).1 := by unfold saveD; rw [if_neg (by simp [hE])]
    rw [hS]
    have hlE := manE_len m
    rw [hE] at KE
    obtain ⟨bs, hbs⟩ : ∃ bs, bs = (manE m).1 := ⟨_, rfl⟩
    obtain ⟨L, hL⟩ : ∃ L, L = bs.length := ⟨_, rfl⟩
    rw [← hbs] at KE hlE ⊢
    rw [← hL] at KE hlE
    have HX := Lib.hid h
    have HL := Lib.hid hL
    have HI := Lib.hid hI
    have hmf : ∀ (fn : Fn) (first cap : Array Value) (w : World), (Instr.makeFunc fn first cap).run Tryd.prog w = .ok (.func fn first cap) w := fun _ _ _ _ => rfl
    unfold mfcells at KE ⊢
    clear h hN hr hl hi hE hS hbs hL hI
    go_enter Tryd.func6, Tryd.ntmps6
    go_upto_region 5 with (first
      | (with_reducible refine wpL_load_row rfl 24 (.tmp 3) rfl _ 24 _ 6 rfl (BlkN (by simp)) mf_wide (mf_size' _ _ _ _ _ _ _ _) ?_)
      | (go_at_call 14; (with_reducible refine (KE.out _ (by repeat (first | with_reducible exact Below.refl _ _ | with_reducible assumption | with_reducible refine ExtD ?_ | with_reducible refine ExtDN ?_ | with_reducible refine ExtA ?_ | (with_reducible refine ExtR ?_ ?_; (first | omega | (dsimp only; omega) | (simp; done) | (simp; omega))) | (with_reducible refine ExtS ?_ ?_; (first | omega | (dsimp only; omega) | (simp; done) | (simp; omega))) | with_reducible refine Ext.tr ?_ (by with_reducible assumption)))).mono ?_); rintro e w1 ⟨A1, c1, rfl, hx1, ho1⟩))
    have hxw : Ext w w1 := Ext.tr (by repeat (first | with_reducible exact Below.refl _ _ | with_reducible assumption | with_reducible refine ExtD ?_ | with_reducible refine ExtDN ?_ | with_reducible refine ExtA ?_ | (with_reducible refine ExtR ?_ ?_; (first | omega | (dsimp only; omega) | (simp; done) | (simp; omega))) | (with_reducible refine ExtS ?_ ?_; (first | omega | (dsimp only; omega) | (simp; done) | (simp; omega))) | with_reducible refine Ext.tr ?_ (by with_reducible assumption))) hx1
    have hw1 : w.heap.size + 1 + 1 ≤ w1.heap.size := by have := hx1.size; simpa using this
    obtain ⟨V, hV⟩ : ∃ V, V = ((w1.alloc (.cells #[.slice A1 L c1] 40)).alloc (.cells #[.func (.func 17) #[] #[.pointer (some ⟨w.heap.size, 0, none⟩)], .func (.func 19) #[] #[.pointer (some ⟨w.heap.size, 0, none⟩), .pointer (some ⟨w1.heap.size, 0, none⟩)], .func (.func 21) #[] #[.pointer (some ⟨w.heap.size, 0, none⟩)], .func (.func 23) #[] #[.pointer (some ⟨w.heap.size, 0, none⟩)]] 50)) := ⟨_, rfl⟩
    have hxV : Ext w1 V := by rw [hV]; exact ExtA (ExtA (Ext.rfl' w1))
    have bp : Blk V w.heap.size 27 #[.pointer (some ⟨g, 0, none⟩)] := hxV.blk (hx1.blk (BlkA (BlkN rfl)))
    have bq : Blk V w1.heap.size 40 #[.slice A1 L c1] := by rw [hV]; exact BlkA (BlkN rfl)
    have br : Blk V (w1.heap.size + 1) 50 #[.func (.func 17) #[] #[.pointer (some ⟨w.heap.size, 0, none⟩)], .func (.func 19) #[] #[.pointer (some ⟨w.heap.size, 0, none⟩), .pointer (some ⟨w1.heap.size, 0, none⟩)], .func (.func 21) #[] #[.pointer (some ⟨w.heap.size, 0, none⟩)], .func (.func 23) #[] #[.pointer (some ⟨w.heap.size, 0, none⟩)]] := by rw [hV]; exact BlkN (by simp)
    have hoV := Lib.hid (own_ext hxV ho1)
    rw [← hV]
    have hlt : ∀ r ∈ foot g b hs, r < w.heap.size := HX.out.lt
    have hXV := Lib.hid (HX.out.ext_ (hxw.tr hxV))
    have hwV : Ext w V := hxw.tr hxV
    have hVs := hxV.size
    obtain ⟨p, hp⟩ : ∃ p, p = w.heap.size := ⟨_, rfl⟩
    obtain ⟨q, hq⟩ : ∃ q, q = w1.heap.size := ⟨_, rfl⟩
    have np : p ∉ foot g b hs := fun hc => by have := hlt p hc; omega
    have nq : q ∉ foot g b hs := fun hc => by have := hlt q hc; omega
    have nr : q + 1 ∉ foot g b hs := fun hc => by have := hlt _ hc; omega
    have nB : ∀ r, (Value.slice A1 L c1).ownBlock = some r → r ∉ foot g b hs := fun r hr hc => by
      have h1 := own_lt hoV.out r hr
      have h2 := hlt r hc
      simp at h1
      omega
    have NB := Lib.hid nB
    rw [← hp] at bp br
    rw [← hq] at bq br
    rw [← hp, ← hq]
    have HV := Lib.hid hwV
    clear nB hp hq hV hxV hxw hx1 ho1 hlt hw1 hVs hwV
    go_wp2_with fail
    go_loopw [26] (fun c26 wr => SvR W V g b hs d bs c26 wr) (fun c26 _ => 4 - (intOf c26).toNat)
    case atStart => exact ⟨0, rfl, by omega, rfl, D, hs, hXV.out, Turn.refl _ _, fun r hr => .inl hr⟩
    case round =>
      obtain ⟨k, rfl, hk4, hk0, D2, hs2, hX2, hT2, hF2⟩ := hrel
      have HX2 := Lib.hid hX2
      have HT2 := Lib.hid hT2
      have HF2 := Lib.hid hF2
      have HI2 := Lib.hid (svN_inv HI.out bs k)
      have hst2 := svN_steps d bs k hk4
      have bp2 := hT2.blk bp np
      have bq2 := hT2.blk bq nq
      have br2 := hT2.blk br nr
      have HO2 := Lib.hid (hT2.own hoV.out NB.out)
      have NB2 : Hid (∀ r, (Value.slice A1 L c1).ownBlock = some r → r ∉ foot g b hs2) := Lib.hid fun r hr => FsTo.off (W := W) (w' := wr) HF2.out (NB.out r hr) (hoV.out.lt r hr).2
      have HS := Lib.hid (svN_succ (d := d) (b := bs) k)
      have HP := Lib.hid (svN_stop (d := d) (b := bs) k)
      have HK0 := Lib.hid hk0
      clear hX2 hT2 hF2 hk0
      rcases (show k = 0 ∨ k = 1 ∨ k = 2 ∨ k = 3 ∨ k = 4 by omega) with rfl | rfl | rfl | rfl | rfl
      · have K := Lib.hid (save1_any HX2.out HI2.out (by omega) p bp2)
        have e1 : svN d bs 1 = createD (svN d bs 0).1 nmT := HS.out (by omega) HK0.out
        rw [← e1] at K
        have k7 : wr.cell? ⟨q + 1, 0, none⟩ = some (.func (.func 17) #[] #[.pointer (some ⟨p, 0, none⟩)]) := br2.cell 0
        clear e1 hst2 br2 bp2 bq2 HS HK0
        by_cases he : (svN d bs 1).2 = 0
        · have HE := Lib.hid he
          rw [he] at K
          clear he
          go_wp2_with (go_at_call 17; go_loud ((with_reducible refine (K.out).mono ?_); rintro e w2 ⟨rfl, hT⟩))
          refine ⟨⟨1, rfl, by omega, HE.out, hT.then HT2.out HF2.out⟩, ?_⟩; simp [intOf]
        · have HE := Lib.hid (HP.out (by omega) he)
          obtain ⟨E, hE⟩ : ∃ E, E = (svN d bs 1).2 := ⟨_, rfl⟩
          have hE' := Lib.hid hE
          rw [← hE] at K he
          have hEi : ¬ ((E : Nat) : Int) = 0 := by omega
          clear hE
          go_wp2_with (go_at_call 17; go_loud ((with_reducible refine (K.out).mono ?_); rintro e w2 ⟨rfl, hT⟩))
          go_ret
          rw [HE.out, ← hE'.out]
          exact ⟨rfl, (hT.then HT2.out HF2.out).pre HV.out⟩
      · have K := Lib.hid (save2_any HX2.out HI2.out (by omega) p q A1 L c1 bs HL.out.symm (by omega) (fun w' ht => rd_own (ht.own HO2.out NB2.out)) bp2 bq2)
        have e1 : svN d bs 2 = appendD (svN d bs 1).1 nmT bs := HS.out (by omega) HK0.out
        rw [← e1] at K
        have k7 : wr.cell? ⟨q + 1, 1, none⟩ = some (.func (.func 19) #[] #[.pointer (some ⟨p, 0, none⟩), .pointer (some ⟨q, 0, none⟩)]) := br2.cell 1
        clear e1 hst2 br2 bp2 bq2 HS HK0
        by_cases he : (svN d bs 2).2 = 0
        · have HE := Lib.hid he
          rw [he] at K
          clear he
          go_wp2_with (go_at_call 19; go_loud ((with_reducible refine (K.out).mono ?_); rintro e w2 ⟨rfl, hT⟩))
          refine ⟨⟨2, rfl, by omega, HE.out, hT.then HT2.out HF2.out⟩, ?_⟩; simp [intOf]
        · have HE := Lib.hid (HP.out (by omega) he)
          obtain ⟨E, hE⟩ : ∃ E, E = (svN d bs 2).2 := ⟨_, rfl⟩
          have hE' := Lib.hid hE
          rw [← hE] at K he
          have hEi : ¬ ((E : Nat) : Int) = 0 := by omega
          clear hE
          go_wp2_with (go_at_call 19; go_loud ((with_reducible refine (K.out).mono ?_); rintro e w2 ⟨rfl, hT⟩))
          go_ret
          rw [HE.out, ← hE'.out]
          exact ⟨rfl, (hT.then HT2.out HF2.out).pre HV.out⟩
      · have K := Lib.hid (save3_any HX2.out HI2.out (by omega) p bp2)
        have e1 : svN d bs 3 = syncD (svN d bs 2).1 nmT := HS.out (by omega) HK0.out
        rw [← e1] at K
        have k7 : wr.cell? ⟨q + 1, 2, none⟩ = some (.func (.func 21) #[] #[.pointer (some ⟨p, 0, none⟩)]) := br2.cell 2
        clear e1 hst2 br2 bp2 bq2 HS HK0
        by_cases he : (svN d bs 3).2 = 0
        · have HE := Lib.hid he
          rw [he] at K
          clear he
          go_wp2_with (go_at_call 21; go_loud ((with_reducible refine (K.out).mono ?_); rintro e w2 ⟨rfl, hT⟩))
          refine ⟨⟨3, rfl, by omega, HE.out, hT.then HT2.out HF2.out⟩, ?_⟩; simp [intOf]
        · have HE := Lib.hid (HP.out (by omega) he)
          obtain ⟨E, hE⟩ : ∃ E, E = (svN d bs 3).2 := ⟨_, rfl⟩
          have hE' := Lib.hid hE
          rw [← hE] at K he
          have hEi : ¬ ((E : Nat) : Int) = 0 := by omega
          clear hE
          go_wp2_with (go_at_call 21; go_loud ((with_reducible refine (K.out).mono ?_); rintro e w2 ⟨rfl, hT⟩))
          go_ret
          rw [HE.out, ← hE'.out]
          exact ⟨rfl, (hT.then HT2.out HF2.out).pre HV.out⟩
      · have K := Lib.hid (save4_any HX2.out HI2.out (by omega) p bp2)
        have e1 : svN d bs 4 = renameD (svN d bs 3).1 nmT nmM := HS.out (by omega) HK0.out
        rw [← e1] at K
        have k7 : wr.cell? ⟨q + 1, 3, none⟩ = some (.func (.func 23) #[] #[.pointer (some ⟨p, 0, none⟩)]) := br2.cell 3
        clear e1 hst2 br2 bp2 bq2 HS HK0
        by_cases he : (svN d bs 4).2 = 0
        · have HE := Lib.hid he
          rw [he] at K
          clear he
          go_wp2_with (go_at_call 23; go_loud ((with_reducible refine (K.out).mono ?_); rintro e w2 ⟨rfl, hT⟩))
          refine ⟨⟨4, rfl, by omega, HE.out, hT.then HT2.out HF2.out⟩, ?_⟩; simp [intOf]
        · have HE := Lib.hid (HP.out (by omega) he)
          obtain ⟨E, hE⟩ : ∃ E, E = (svN d bs 4).2 := ⟨_, rfl⟩
          have hE' := Lib.hid hE
          rw [← hE] at K he
          have hEi : ¬ ((E : Nat) : Int) = 0 := by omega
          clear hE
          go_wp2_with (go_at_call 23; go_loud ((with_reducible refine (K.out).mono ?_); rintro e w2 ⟨rfl, hT⟩))
          go_ret
          rw [HE.out, ← hE'.out]
          exact ⟨rfl, (hT.then HT2.out HF2.out).pre HV.out⟩
      · clear br2 bp2 bq2
        go_wp2_with fail
        go_ret
        have e4 : (sv4 d bs).2 = 0 := HK0.out
        rw [e4]
        exact ⟨rfl, FsTo.pre ⟨D2, hs2, HX2.out, HT2.out, HF2.out⟩ HV.out⟩
  · have hS : saveD d m = (d, (manE m).2) := by unfold saveD; rw [if_pos hE]
    rw [hS]
    obtain ⟨E, hEe⟩ : ∃ E, E = (manE m).2 := ⟨_, rfl⟩
    rw [← hEe] at KE hE ⊢
    clear hEe hS
    have HX := Lib.hid h
    unfold mfcells at KE ⊢
    clear h hN hr hl hi
    have hEi : ¬ ((E : Nat) : Int) = 0 := by omega
    go_enter Tryd.func6, Tryd.ntmps6
    go_wp2_with (first
      | (with_reducible refine wpL_load_row rfl 24 (.tmp 3) rfl _ 24 _ 6 rfl (BlkN (by simp)) mf_wide (mf_size' _ _ _ _ _ _ _ _) ?_)
      | (go_at_call 14; (with_reducible refine (KE.out _ (by repeat (first | with_reducible exact Below.refl _ _ | with_reducible assumption | with_reducible refine ExtD ?_ | with_reducible refine ExtDN ?_ | with_reducible refine ExtA ?_ | (with_reducible refine ExtR ?_ ?_; (first | omega | (dsimp only; omega) | (simp; done) | (simp; omega))) | (with_reducible refine ExtS ?_ ?_; (first | omega | (dsimp only; omega) | (simp; done) | (simp; omega))) | with_reducible refine Ext.tr ?_ (by with_reducible assumption)))).mono ?_); rintro e w1 ⟨A1, c1, rfl, hx1, ho1⟩))
    go_ret
    have hx9 : Ext w (w1.alloc (.cells #[.slice A1 (manE m).1.length c1] 40)) := (Ext.tr (by repeat (first | with_reducible exact Below.refl _ _ | with_reducible assumption | with_reducible refine ExtD ?_ | with_reducible refine ExtDN ?_ | with_reducible refine ExtA ?_ | (with_reducible refine ExtR ?_ ?_; (first | omega | (dsimp only; omega) | (simp; done) | (simp; omega))) | (with_reducible refine ExtS ?_ ?_; (first | omega | (dsimp only; omega) | (simp; done) | (simp; omega))) | with_reducible refine Ext.tr ?_ (by with_reducible assumption))) hx1).tr (ExtA (Ext.rfl' w1))
    exact ⟨rfl, D, hs, HX.out.ext_ hx9, hx9.turn _, fun r hr => .inl hr⟩
end Go.Proofs.YtdoaniimfhpjhaaDoor
