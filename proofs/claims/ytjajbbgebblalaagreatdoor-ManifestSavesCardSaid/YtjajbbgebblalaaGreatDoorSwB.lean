/-
  The walk of manifest.Save. (Written by wip/tools/gen_swb.py.)
-/
/-
  The walk of manifest.Load.
-/
/-
  The walk of ManifestSwaps. (Written by wip/tools/gen_swd.py.)
-/
/-
  The walk of ManifestSwaps. (Written by wip/tools/gen_swe.py.)
-/
import Derived.Test.YtjajbbgebblalaaGreatDoorSwP
import Derived.Test.YtjajbbgebblalaaGreatDoorManE
import Derived.Test.YtjajbbgebblalaaGreatDoorManX
import Derived.Test.YtjajbbgebblalaaGreatDoorManH
import Derived.Test.YtjajbbgebblalaaGreatDoorManM
namespace Go.Proofs.YtjajbbgebblalaaGreatDoor
open Go.RowKit
set_option linter.unusedVariables false
set_option linter.unusedSimpArgs false
open Go.Maps
def saveD (d : Dk) (m : Mf) : Dk × Nat := if (manE m).2 ≠ 0 then (d, (manE m).2) else sv4 d (manE m).1
def svN (d : Dk) (b : List UInt8) : Nat → Dk × Nat
  | 0 => (d, 0)
  | 1 => sv1 d
  | 2 => sv2 d b
  | 3 => sv3 d b
  | _ => sv4 d b
def stpN (d : Dk) (b : List UInt8) : Nat → Dk × Nat
  | 0 => createD d nmT
  | 1 => appendD d nmT b
  | 2 => syncD d nmT
  | _ => renameD d nmT nmM
theorem svN_succ {d : Dk} {b : List UInt8} : ∀ k, k < 4 → (svN d b k).2 = 0 → svN d b (k + 1) = stpN (svN d b k).1 b k
  | 0, _, _ => rfl
  | 1, _, h => by show sv2 d b = _; unfold sv2; exact if_neg (by simpa [svN] using h)
  | 2, _, h => by show sv3 d b = _; unfold sv3; exact if_neg (by simpa [svN] using h)
  | 3, _, h => by show sv4 d b = _; unfold sv4; exact if_neg (by simpa [svN] using h)
  | k + 4, h, _ => absurd h (by omega)
theorem svN_stop {d : Dk} {b : List UInt8} : ∀ k, k < 4 → (svN d b (k + 1)).2 ≠ 0 → sv4 d b = svN d b (k + 1) := by
  have h3 : (sv3 d b).2 ≠ 0 → sv4 d b = sv3 d b := fun h => by unfold sv4; exact if_pos h
  have h2 : (sv2 d b).2 ≠ 0 → sv3 d b = sv2 d b := fun h => by unfold sv3; exact if_pos h
  have h1 : (sv1 d).2 ≠ 0 → sv2 d b = sv1 d := fun h => by unfold sv2; exact if_pos h
  intro k hk h
  match k, hk, h with
  | 0, _, h => have e1 := h1 h; have e2 := h2 (by rw [e1]; exact h); exact (h3 (by rw [e2, e1]; exact h)).trans (e2.trans e1)
  | 1, _, h => have e2 := h2 h; exact (h3 (by rw [e2]; exact h)).trans e2
  | 2, _, h => exact h3 h
  | 3, _, _ => rfl
  | k + 4, hk, _ => omega
theorem svN_inv {d : Dk} (h : DkInv d) (b : List UInt8) (k : Nat) : DkInv (svN d b k).1 := by
  obtain ⟨h1, h2, h3, h4⟩ := sv_inv h b
  unfold svN
  split <;> assumption
theorem svN_steps (d : Dk) (b : List UInt8) (k : Nat) (hk : k ≤ 4) : (svN d b k).1.steps ≤ d.steps + (k : Nat) := by
  obtain ⟨h1, h2, h3, h4⟩ := sv_steps d b
  match k, hk with
  | 0, _ => show d.steps ≤ _; omega
  | 1, _ => exact h1
  | 2, _ => exact h2
  | 3, _ => exact h3
  | 4, _ => exact h4
def SvR (W V : World) (g b : Nat) (hs : List HF) (d : Dk) (bs : List UInt8) (c26 : Value) (wr : World) : Prop :=
  ∃ k : Nat, c26 = .int .i64 (k : Nat) ∧ k ≤ 4 ∧ (svN d bs k).2 = 0 ∧ FsTo W V wr g b hs (svN d bs k).1
set_option maxRecDepth 100000 in
set_option maxHeartbeats 4000000 in
theorem save_any (m : Mf) (A : Option Addr) (c : Nat) (W w : World) (g b : Nat) (d : Dk) (D : DataW Value) (hs : List HF) (h : FsX W w g d b D hs) (hI : DkInv d) (hst : d.steps ≤ 4611686018427387900) (hN : Nib w) (hr : SgRd w A m.segs) (hl : m.segs.length ≤ 4398046510976) (hi : MI64 m.next) :
    Calls Tryz.prog 16 #[.pointer (some ⟨g, 0, none⟩), .agg (mfcells m A c)] w fun e w' => e = .returned (.int .i64 ((saveD d m).2 : Nat)) ∧ FsTo W w w' g b hs (saveD d m).1 := by
  have KE := Lib.hid fun W (hx : Ext w W) => menc_any m A c W (hN.ext hx) (hr.ext hx) hl hi
  unfold MePost at KE
  by_cases hE : (manE m).2 = 0
  · have hS : saveD d m = sv4 d (manE m).1 := by unfold saveD; rw [if_neg (by simp [hE])]
    rw [hS]
    have hlE := manE_len m
    rw [hE] at KE
    obtain ⟨bs, hbs⟩ : ∃ bs, bs = (manE m).1 := ⟨_, rfl⟩
    obtain ⟨L, hL⟩ : ∃ L, L = bs.length := ⟨_, rfl⟩
    rw [← hbs] at KE hlE ⊢
    rw [← hL] at KE hlE
    have HX := Lib.hid h
    have HL := Lib.hid hL
    have HI := Lib.hid hI
    have hmf : ∀ (fn : Fn) (first cap : Array Value) (w : World), (Instr.makeFunc fn first cap).run Tryz.prog w = .ok (.func fn first cap) w := fun _ _ _ _ => rfl
    unfold mfcells at KE ⊢
    clear h hN hr hl hi hE hS hbs hL hI
    go_enter Tryz.func16, Tryz.ntmps16
    go_upto_region 5 with (first
      | (with_reducible refine wpL_load_row rfl 25 (.tmp 3) rfl _ 25 _ 6 rfl (BlkN (by simp)) mf_wide (mf_size' _ _ _ _ _ _ _ _) ?_)
      | (go_at_call 43; (with_reducible refine (KE.out _ (by repeat (first | with_reducible exact Below.refl _ _ | with_reducible assumption | with_reducible refine ExtD ?_ | with_reducible refine ExtDN ?_ | with_reducible refine ExtA ?_ | (with_reducible refine ExtR ?_ ?_; (first | omega | (dsimp only; omega) | (simp; done) | (simp; omega))) | (with_reducible refine ExtS ?_ ?_; (first | omega | (dsimp only; omega) | (simp; done) | (simp; omega))) | with_reducible refine Ext.tr ?_ (by with_reducible assumption)))).mono ?_); rintro e w1 ⟨A1, c1, rfl, hx1, ho1⟩))
    have hxw : Ext w w1 := Ext.tr (by repeat (first | with_reducible exact Below.refl _ _ | with_reducible assumption | with_reducible refine ExtD ?_ | with_reducible refine ExtDN ?_ | with_reducible refine ExtA ?_ | (with_reducible refine ExtR ?_ ?_; (first | omega | (dsimp only; omega) | (simp; done) | (simp; omega))) | (with_reducible refine ExtS ?_ ?_; (first | omega | (dsimp only; omega) | (simp; done) | (simp; omega))) | with_reducible refine Ext.tr ?_ (by with_reducible assumption))) hx1
    have hw1 : w.heap.size + 1 + 1 ≤ w1.heap.size := by have := hx1.size; simpa using this
    obtain ⟨V, hV⟩ : ∃ V, V = ((w1.alloc (.cells #[.slice A1 L c1] 36)).alloc (.cells #[.func (.func 60) #[] #[.pointer (some ⟨w.heap.size, 0, none⟩)], .func (.func 62) #[] #[.pointer (some ⟨w.heap.size, 0, none⟩), .pointer (some ⟨w1.heap.size, 0, none⟩)], .func (.func 64) #[] #[.pointer (some ⟨w.heap.size, 0, none⟩)], .func (.func 66) #[] #[.pointer (some ⟨w.heap.size, 0, none⟩)]] 124)) := ⟨_, rfl⟩
    have hxV : Ext w1 V := by rw [hV]; exact ExtA (ExtA (Ext.rfl' w1))
    have bp : Blk V w.heap.size 31 #[.pointer (some ⟨g, 0, none⟩)] := hxV.blk (hx1.blk (BlkA (BlkN rfl)))
    have bq : Blk V w1.heap.size 36 #[.slice A1 L c1] := by rw [hV]; exact BlkA (BlkN rfl)
    have br : Blk V (w1.heap.size + 1) 124 #[.func (.func 60) #[] #[.pointer (some ⟨w.heap.size, 0, none⟩)], .func (.func 62) #[] #[.pointer (some ⟨w.heap.size, 0, none⟩), .pointer (some ⟨w1.heap.size, 0, none⟩)], .func (.func 64) #[] #[.pointer (some ⟨w.heap.size, 0, none⟩)], .func (.func 66) #[] #[.pointer (some ⟨w.heap.size, 0, none⟩)]] := by rw [hV]; exact BlkN (by simp)
    have hoV := Lib.hid (own_ext hxV ho1)
    rw [← hV]
    have hlt : ∀ r ∈ foot g b hs, r < w.heap.size := HX.out.lt
    have hXV := Lib.hid (HX.out.ext_ (hxw.tr hxV))
    have hwV : Ext w V := hxw.tr hxV
    have hVs := hxV.size
    obtain ⟨p, hp⟩ : ∃ p, p = w.heap.size := ⟨_, rfl⟩
    obtain ⟨q, hq⟩ : ∃ q, q = w1.heap.size := ⟨_, rfl⟩
    have np : p ∉ foot g b hs := fun hc => by have := hlt p hc; omega
    have nq : q ∉ foot g b hs := fun hc => by have := hlt q hc; omega
    have nr : q + 1 ∉ foot g b hs := fun hc => by have := hlt _ hc; omega
    have nB : ∀ r, (Value.slice A1 L c1).ownBlock = some r → r ∉ foot g b hs := fun r hr hc => by
      have h1 := own_lt hoV.out r hr
      have h2 := hlt r hc
      simp at h1
      omega
    have NB := Lib.hid nB
    rw [← hp] at bp br
    rw [← hq] at bq br
    rw [← hp, ← hq]
    have HV := Lib.hid hwV
    clear nB hp hq hV hxV hxw hx1 ho1 hlt hw1 hVs hwV
    go_wp2_with fail
    go_loopw [26] (fun c26 wr => SvR W V g b hs d bs c26 wr) (fun c26 _ => 4 - (intOf c26).toNat)
    case atStart => exact ⟨0, rfl, by omega, rfl, D, hs, hXV.out, Turn.refl _ _, fun r hr => .inl hr⟩
    case round =>
      obtain ⟨k, rfl, hk4, hk0, D2, hs2, hX2, hT2, hF2⟩ := hrel
      have HX2 := Lib.hid hX2
      have HT2 := Lib.hid hT2
      have HF2 := Lib.hid hF2
      have HI2 := Lib.hid (svN_inv HI.out bs k)
      have hst2 := svN_steps d bs k hk4
      have bp2 := hT2.blk bp np
      have bq2 := hT2.blk bq nq
      have br2 := hT2.blk br nr
      have HO2 := Lib.hid (hT2.own hoV.out NB.out)
      have NB2 : Hid (∀ r, (Value.slice A1 L c1).ownBlock = some r → r ∉ foot g b hs2) := Lib.hid fun r hr => FsTo.off (W := W) (w' := wr) HF2.out (NB.out r hr) (hoV.out.lt r hr).2
      have HS := Lib.hid (svN_succ (d := d) (b := bs) k)
      have HP := Lib.hid (svN_stop (d := d) (b := bs) k)
      have HK0 := Lib.hid hk0
      clear hX2 hT2 hF2 hk0
      rcases (show k = 0 ∨ k = 1 ∨ k = 2 ∨ k = 3 ∨ k = 4 by omega) with rfl | rfl | rfl | rfl | rfl
      · have K := Lib.hid (save1_any HX2.out HI2.out (by omega) p bp2)
        have e1 : svN d bs 1 = createD (svN d bs 0).1 nmT := HS.out (by omega) HK0.out
        rw [← e1] at K
        have k7 : wr.cell? ⟨q + 1, 0, none⟩ = some (.func (.func 60) #[] #[.pointer (some ⟨p, 0, none⟩)]) := br2.cell 0
        clear e1 hst2 br2 bp2 bq2 HS HK0
        by_cases he : (svN d bs 1).2 = 0
        · have HE := Lib.hid he
          rw [he] at K
          clear he
          go_wp2_with (go_at_call 60; go_loud ((with_reducible refine (K.out).mono ?_); rintro e w2 ⟨rfl, hT⟩))
          refine ⟨⟨1, rfl, by omega, HE.out, hT.then HT2.out HF2.out⟩, ?_⟩; simp [intOf]
        · have HE := Lib.hid (HP.out (by omega) he)
          obtain ⟨E, hE⟩ : ∃ E, E = (svN d bs 1).2 := ⟨_, rfl⟩
          have hE' := Lib.hid hE
          rw [← hE] at K he
          have hEi : ¬ ((E : Nat) : Int) = 0 := by omega
          clear hE
          go_wp2_with (go_at_call 60; go_loud ((with_reducible refine (K.out).mono ?_); rintro e w2 ⟨rfl, hT⟩))
          go_ret
          rw [HE.out, ← hE'.out]
          exact ⟨rfl, (hT.then HT2.out HF2.out).pre HV.out⟩
      · have K := Lib.hid (save2_any HX2.out HI2.out (by omega) p q A1 L c1 bs HL.out.symm (by omega) (fun w' ht => rd_own (ht.own HO2.out NB2.out)) bp2 bq2)
        have e1 : svN d bs 2 = appendD (svN d bs 1).1 nmT bs := HS.out (by omega) HK0.out
        rw [← e1] at K
        have k7 : wr.cell? ⟨q + 1, 1, none⟩ = some (.func (.func 62) #[] #[.pointer (some ⟨p, 0, none⟩), .pointer (some ⟨q, 0, none⟩)]) := br2.cell 1
        clear e1 hst2 br2 bp2 bq2 HS HK0
        by_cases he : (svN d bs 2).2 = 0
        · have HE := Lib.hid he
          rw [he] at K
          clear he
          go_wp2_with (go_at_call 62; go_loud ((with_reducible refine (K.out).mono ?_); rintro e w2 ⟨rfl, hT⟩))
          refine ⟨⟨2, rfl, by omega, HE.out, hT.then HT2.out HF2.out⟩, ?_⟩; simp [intOf]
        · have HE := Lib.hid (HP.out (by omega) he)
          obtain ⟨E, hE⟩ : ∃ E, E = (svN d bs 2).2 := ⟨_, rfl⟩
          have hE' := Lib.hid hE
          rw [← hE] at K he
          have hEi : ¬ ((E : Nat) : Int) = 0 := by omega
          clear hE
          go_wp2_with (go_at_call 62; go_loud ((with_reducible refine (K.out).mono ?_); rintro e w2 ⟨rfl, hT⟩))
          go_ret
          rw [HE.out, ← hE'.out]
          exact ⟨rfl, (hT.then HT2.out HF2.out).pre HV.out⟩
      · have K := Lib.hid (save3_any HX2.out HI2.out (by omega) p bp2)
        have e1 : svN d bs 3 = syncD (svN d bs 2).1 nmT := HS.out (by omega) HK0.out
        rw [← e1] at K
        have k7 : wr.cell? ⟨q + 1, 2, none⟩ = some (.func (.func 64) #[] #[.pointer (some ⟨p, 0, none⟩)]) := br2.cell 2
        clear e1 hst2 br2 bp2 bq2 HS HK0
        by_cases he : (svN d bs 3).2 = 0
        · have HE := Lib.hid he
          rw [he] at K
          clear he
          go_wp2_with (go_at_call 64; go_loud ((with_reducible refine (K.out).mono ?_); rintro e w2 ⟨rfl, hT⟩))
          refine ⟨⟨3, rfl, by omega, HE.out, hT.then HT2.out HF2.out⟩, ?_⟩; simp [intOf]
        · have HE := Lib.hid (HP.out (by omega) he)
          obtain ⟨E, hE⟩ : ∃ E, E = (svN d bs 3).2 := ⟨_, rfl⟩
          have hE' := Lib.hid hE
          rw [← hE] at K he
          have hEi : ¬ ((E : Nat) : Int) = 0 := by omega
          clear hE
          go_wp2_with (go_at_call 64; go_loud ((with_reducible refine (K.out).mono ?_); rintro e w2 ⟨rfl, hT⟩))
          go_ret
          rw [HE.out, ← hE'.out]
          exact ⟨rfl, (hT.then HT2.out HF2.out).pre HV.out⟩
      · have K := Lib.hid (save4_any HX2.out HI2.out (by omega) p bp2)
        have e1 : svN d bs 4 = renameD (svN d bs 3).1 nmT nmM := HS.out (by omega) HK0.out
        rw [← e1] at K
        have k7 : wr.cell? ⟨q + 1, 3, none⟩ = some (.func (.func 66) #[] #[.pointer (some ⟨p, 0, none⟩)]) := br2.cell 3
        clear e1 hst2 br2 bp2 bq2 HS HK0
        by_cases he : (svN d bs 4).2 = 0
        · have HE := Lib.hid he
          rw [he] at K
          clear he
          go_wp2_with (go_at_call 66; go_loud ((with_reducible refine (K.out).mono ?_); rintro e w2 ⟨rfl, hT⟩))
          refine ⟨⟨4, rfl, by omega, HE.out, hT.then HT2.out HF2.out⟩, ?_⟩; simp [intOf]
        · have HE := Lib.hid (HP.out (by omega) he)
          obtain ⟨E, hE⟩ : ∃ E, E = (svN d bs 4).2 := ⟨_, rfl⟩
          have hE' := Lib.hid hE
          rw [← hE] at K he
          have hEi : ¬ ((E : Nat) : Int) = 0 := by omega
          clear hE
          go_wp2_with (go_at_call 66; go_loud ((with_reducible refine (K.out).mono ?_); rintro e w2 ⟨rfl, hT⟩))
          go_ret
          rw [HE.out, ← hE'.out]
          exact ⟨rfl, (hT.then HT2.out HF2.out).pre HV.out⟩
      · clear br2 bp2 bq2
        go_wp2_with fail
        go_ret
        have e4 : (sv4 d bs).2 = 0 := HK0.out
        rw [e4]
        exact ⟨rfl, FsTo.pre ⟨D2, hs2, HX2.out, HT2.out, HF2.out⟩ HV.out⟩
  · have hS : saveD d m = (d, (manE m).2) := by unfold saveD; rw [if_pos hE]
    rw [hS]
    obtain ⟨E, hEe⟩ : ∃ E, E = (manE m).2 := ⟨_, rfl⟩
    rw [← hEe] at KE hE ⊢
    clear hEe hS
    have HX := Lib.hid h
    unfold mfcells at KE ⊢
    clear h hN hr hl hi
    have hEi : ¬ ((E : Nat) : Int) = 0 := by omega
    go_enter Tryz.func16, Tryz.ntmps16
    go_wp2_with (first
      | (with_reducible refine wpL_load_row rfl 25 (.tmp 3) rfl _ 25 _ 6 rfl (BlkN (by simp)) mf_wide (mf_size' _ _ _ _ _ _ _ _) ?_)
      | (go_at_call 43; (with_reducible refine (KE.out _ (by repeat (first | with_reducible exact Below.refl _ _ | with_reducible assumption | with_reducible refine ExtD ?_ | with_reducible refine ExtDN ?_ | with_reducible refine ExtA ?_ | (with_reducible refine ExtR ?_ ?_; (first | omega | (dsimp only; omega) | (simp; done) | (simp; omega))) | (with_reducible refine ExtS ?_ ?_; (first | omega | (dsimp only; omega) | (simp; done) | (simp; omega))) | with_reducible refine Ext.tr ?_ (by with_reducible assumption)))).mono ?_); rintro e w1 ⟨A1, c1, rfl, hx1, ho1⟩))
    go_ret
    have hx9 : Ext w (w1.alloc (.cells #[.slice A1 (manE m).1.length c1] 36)) := (Ext.tr (by repeat (first | with_reducible exact Below.refl _ _ | with_reducible assumption | with_reducible refine ExtD ?_ | with_reducible refine ExtDN ?_ | with_reducible refine ExtA ?_ | (with_reducible refine ExtR ?_ ?_; (first | omega | (dsimp only; omega) | (simp; done) | (simp; omega))) | (with_reducible refine ExtS ?_ ?_; (first | omega | (dsimp only; omega) | (simp; done) | (simp; omega))) | with_reducible refine Ext.tr ?_ (by with_reducible assumption))) hx1).tr (ExtA (Ext.rfl' w1))
    exact ⟨rfl, D, hs, HX.out.ext_ hx9, hx9.turn _, fun r hr => .inl hr⟩
end Go.Proofs.YtjajbbgebblalaaGreatDoor

namespace Go.Proofs.YtjajbbgebblalaaGreatDoor
open Go.RowKit
set_option linter.unusedVariables false
set_option linter.unusedSimpArgs false
open Go.Maps
def loadD (d : Dk) : Dk × Mf × Bool × Nat :=
  if (sizeD d nmM).2 = 51 then (d, noMf, false, 0) else if (sizeD d nmM).2 ≠ 0 then (d, noMf, false, (sizeD d nmM).2) else
  if (manD (readD d nmM 0 (sizeD d nmM).1).2.1).2 ≠ 0 then ((readD d nmM 0 (sizeD d nmM).1).1, noMf, false, (manD (readD d nmM 0 (sizeD d nmM).1).2.1).2) else
  ((readD d nmM 0 (sizeD d nmM).1).1, (manD (readD d nmM 0 (sizeD d nmM).1).2.1).1, true, 0)
theorem le_sumF {l : List Fil} {f : Fil} (h : f ∈ l) : f.data.length ≤ sumF l := by
  unfold sumF
  induction l with
  | nil => cases h
  | cons x l ih =>
    rw [List.map_cons, List.sum_cons]
    rcases List.mem_cons.1 h with rfl | h
    · omega
    · have := ih h; omega
theorem getF_small {d : Dk} (hI : DkInv d) (nm : ByteArray) : (((getF d nm).map (·.data)).getD []).length ≤ 67108864 := by
  cases hg : getF d nm with
  | none => simp
  | some f =>
    have h1 : f ∈ d.files := List.mem_of_find?_eq_some hg
    have h2 := le_sumF h1
    have h3 : d.used = (sumF d.files : Nat) := hI.ok.1
    have := hI.ok.2.1; have := hI.ok.2.2
    show f.data.length ≤ _
    omega
theorem read_small {d : Dk} (hI : DkInv d) (nm : ByteArray) (i n : Int) : (readD d nm i n).2.1.length ≤ 67108864 := by
  have h := getF_small hI nm
  unfold readD
  split; · simp
  dsimp only
  split; · simp
  rw [List.length_take, List.length_drop]
  omega
theorem size_small {d : Dk} (hI : DkInv d) (nm : ByteArray) : (sizeD d nm).1 ≤ 67108864 := by
  have h := getF_small hI nm
  unfold sizeD
  split; · simp
  show ((getF d nm).map (·.data.length)).getD 0 ≤ _
  cases hg : getF d nm with
  | none => simp
  | some f => rw [hg] at h; exact h
theorem turnRow {F : List Nat} {a : World} {g : Nat} {cs : Array Value} (hg : g ∈ F) : Turn F a (a.setRow g cs) :=
  ⟨rfl, rfl, rfl, by simp [World.setRow], fun k _ hn => by
    simp only [World.setRow, Array.getElem?_modify]
    rw [if_neg (fun e => hn (by rw [← e]; exact hg))]⟩
theorem FsX.keepM {W w w' : World} {g b : Nat} {d : Dk} {D : DataW Value} {hs : List HF} {F : List Nat} (h : FsX W w g d b D hs) (ht : Turn F w w') (hn : ∀ r ∈ F, r ∉ foot g b hs) (hb : ∀ r ∈ F, W.heap.size ≤ r) : FsX W w' g d b D hs :=
  { ext := ht.ext h.ext hb, blk := ht.blk h.blk (fun hc => hn _ hc foot_g), own := (by obtain ⟨n, hn', ho⟩ := h.own; exact ⟨n, hn', ht.map ho (fun hc => hn _ hc foot_b)⟩), map := h.map, fil := fun f hf => (h.fil f hf).turn ht (fun r hr hc => hn r hc (foot_h hf hr)), dis := h.dis, base := h.base, lt := fun r hr => Nat.lt_of_lt_of_le (h.lt r hr) ht.size, hsd := h.hsd, cnt := h.cnt }
/-- Behind a call, further worlds that touch blocks of the call's own alone. -/
theorem FsTo.keepM {W w w' w2 : World} {g b : Nat} {d' : Dk} {D' : DataW Value} {hs hs' : List HF} {F : List Nat} (hX : FsX W w' g d' b D' hs') (hT : Turn (foot g b hs) w w') (hf : ∀ r ∈ foot g b hs', r ∈ foot g b hs ∨ w.heap.size ≤ r) (ht : Turn F w' w2) (hn : ∀ r ∈ F, r ∉ foot g b hs') (hb : ∀ r ∈ F, W.heap.size ≤ r ∧ w.heap.size ≤ r) : FsTo W w w2 g b hs d' :=
  ⟨D', hs', hX.keepM ht hn (fun r hr => (hb r hr).1), hT.trans ht (fun r hr => .inr (hb r hr).2), hf⟩
def LdPost (W w : World) (g b : Nat) (hs : List HF) (r : Dk × Mf × Bool × Nat) (e : Ending) (w' : World) : Prop :=
  ∃ A c, e = .returned (.tuple #[.agg (mfcells r.2.1 A c), .bool r.2.2.1, .int .i64 (r.2.2.2 : Nat)]) ∧ FsTo W w w' g b hs r.1 ∧ OwnSg w' w.heap.size A r.2.1.segs c
/-- Load's end: the struct that it hands out is written into its own block. -/
theorem ld_end {W w w1 w2 w3 w9 : World} {g b : Nat} {d2 : Dk} {D2 : DataW Value} {hs hs2 : List HF} {m : Mf} {A : Option Addr} {c : Nat} {bl : Bool} {E : Nat} (hW : Ext W w) (hlt : ∀ r ∈ foot g b hs, r < w.heap.size) (hX1 : Ext w w1) (hs1 : w.heap.size < w1.heap.size) (hX2 : FsX W w2 g d2 b D2 hs2) (hT2 : Turn (foot g b hs) w1 w2) (hF2 : ∀ r ∈ foot g b hs2, r ∈ foot g b hs ∨ w1.heap.size ≤ r)
    (hx3 : Ext w2 w3) (ho3 : OwnSg w3 w2.heap.size A m.segs c) (ht : Turn [w.heap.size] w3 w9) : LdPost W w g b hs (d2, m, bl, E) (.returned (.tuple #[.agg (mfcells m A c), .bool bl, .int .i64 (E : Nat)])) w9 := by
  have np : w.heap.size ∉ foot g b hs := fun hc => by have := hlt _ hc; omega
  have h2 := hT2.size
  refine ⟨A, c, rfl, FsTo.keepM hX2 ((hX1.turn _).tr hT2) (fun r hr => (hF2 r hr).imp id fun h => Nat.le_trans hX1.size h) (((hx3.turn [w.heap.size])).tr ht) (fun r hr => ?_) (fun r hr => ?_), ?_⟩
  · rw [List.mem_singleton.1 hr]
    exact FsTo.off (W := W) (w' := w2) hF2 np hs1
  · rw [List.mem_singleton.1 hr]
    exact ⟨hW.size, Nat.le_refl _⟩
  · refine own_base (ht.own ho3 fun r hr hc => ?_) (by omega)
    have h1 := own_lt ho3 r hr
    have h4 := List.mem_singleton.1 hc
    omega
theorem ld_none {W w w' : World} {g b : Nat} {d : Dk} {D : DataW Value} {hs : List HF} {r : Dk × Mf × Bool × Nat} {E : Nat} (hr : r = (d, noMf, false, E)) (h : FsX W w g d b D hs) (hx : Ext w w') : LdPost W w g b hs r (.returned (.tuple #[.agg (mfcells noMf none 0), .bool false, .int .i64 (E : Nat)])) w' := by
  subst hr
  exact ⟨none, 0, rfl, ⟨D, hs, h.ext_ hx, hx.turn _, fun r hr => .inl hr⟩, World.ownsRow_nil _ _ _ _⟩
set_option maxRecDepth 100000 in
set_option maxHeartbeats 4000000 in
theorem load_any (W w : World) (g b : Nat) (d : Dk) (D : DataW Value) (hs : List HF) (h : FsX W w g d b D hs) (hI : DkInv d) (hN : Nib W) :
    Calls Tryz.prog 21 #[.pointer (some ⟨g, 0, none⟩)] w (LdPost W w g b hs (loadD d)) := by
  have KS := Lib.hid fun W2 (hx : Ext w W2) => sizeK (h.ext_ hx) nmM
  have HX := Lib.hid h
  have hlt := h.lt
  by_cases h51 : (sizeD d nmM).2 = 51
  · have Hr := Lib.hid (show loadD d = (d, noMf, false, 0) by unfold loadD; rw [if_pos h51])
    rw [h51] at KS
    unfold nmM at KS
    clear h hI hN h51 hlt
    go_enter Tryz.func21, Tryz.ntmps21
    go_wp2_with (first
      | (go_at_call 69; (with_reducible refine (KS.out _ (by repeat (first | with_reducible exact Below.refl _ _ | with_reducible assumption | with_reducible refine ExtD ?_ | with_reducible refine ExtDN ?_ | with_reducible refine ExtA ?_ | (with_reducible refine ExtR ?_ ?_; (first | omega | (dsimp only; omega) | (simp; done) | (simp; omega))) | (with_reducible refine ExtS ?_ ?_; (first | omega | (dsimp only; omega) | (simp; done) | (simp; omega))) | with_reducible refine Ext.tr ?_ (by with_reducible assumption)))).mono ?_); rintro e w1 ⟨rfl, hx1⟩; have b2 : Blk w1 w.heap.size 25 #[.int .i64 0, .int .i64 0, .int .i64 0, .int .i64 0, .int .i64 0, .slice none 0 0] := BlkE (BlkN rfl) hx1)
      | (with_reducible refine wpL_store_row rfl 25 (.tmp 2) (.tmp 17) rfl _ 25 _ _ rfl rfl b2 ((mf_size' _ _ _ _ _ _ _ _).trans (mf_size' _ _ _ _ _ _ _ _).symm) (mf_one' _ _ _ _ _ _ _ _) 6 mf_wide (mf_size' _ _ _ _ _ _ _ _) ?_))
    (try simp only [Exit.inBlock, Exit.then]); refine bodyPost_ret (v := .tuple #[.agg (mfcells noMf none 0), .bool false, .int .i64 0]) (res_row_tt rfl _ w.heap.size 25 _ 6 _ _ rfl rfl rfl (Blk.setRow_ b2) mf_wide rfl) rfl ?_
    exact ld_none Hr.out HX.out (ExtR (Nat.le_refl _) (Ext.tr (ExtA (Ext.rfl' w)) hx1))
  · by_cases h0 : (sizeD d nmM).2 = 0
    · have hsm := size_small hI nmM
      have KR := Lib.hid fun W2 (hx : Ext w W2) => readK (h.ext_ hx) hI nmM 0 (sizeD d nmM).1 (by unfold IsI64; omega) (by unfold IsI64; omega)
      unfold GaveB at KR
      have hrs := read_small hI nmM 0 (sizeD d nmM).1
      have Hr := Lib.hid (show loadD d = (if (manD (readD d nmM 0 (sizeD d nmM).1).2.1).2 ≠ 0 then ((readD d nmM 0 (sizeD d nmM).1).1, noMf, false, (manD (readD d nmM 0 (sizeD d nmM).1).2.1).2) else ((readD d nmM 0 (sizeD d nmM).1).1, (manD (readD d nmM 0 (sizeD d nmM).1).2.1).1, true, 0)) by unfold loadD; rw [if_neg h51, if_neg (by simp [h0])])
      rw [h0] at KS
      generalize (sizeD d nmM).1 = n at *
      generalize hrd : readD d nmM 0 (n : Nat) = R at *
      obtain ⟨d2, l, E2⟩ := R
      dsimp only at KR hrs Hr
      obtain ⟨n2, hn2⟩ : ∃ n2, n2 = l.length := ⟨_, rfl⟩
      have Hn2 := Lib.hid hn2
      rw [← hn2] at KR hrs
      have KD := Lib.hid fun A2 c2 W2 (hx : Ext W W2) (hr : Rd W2 A2 n2 (u8s l)) (hc : n2 ≤ c2) => mdec_any A2 n2 c2 l W2 (hN.ext hx) hr hc (by unfold maxLen; omega)
      unfold MdPost at KD
      have Hlt := Lib.hid hlt
      have Hnp := Lib.hid (show w.heap.size ∉ foot g b hs from fun hc => by have := hlt _ hc; omega)
      clear h hI hN h51 h0 hrd hn2 hlt
      unfold nmM at KS KR
      by_cases he : (manD l).2 = 0
      · have Hr2 := Lib.hid (show loadD d = (d2, (manD l).1, true, 0) by rw [Hr.out, if_neg (by simp [he])])
        rw [he] at KD
        obtain ⟨m, hm⟩ : ∃ m, m = (manD l).1 := ⟨_, rfl⟩
        rw [← hm] at KD Hr2
        unfold mfcells at KD
        clear he hm Hr
        go_enter Tryz.func21, Tryz.ntmps21
        go_wp2_with (first
          | (go_at_call 69; (with_reducible refine (KS.out _ (by repeat (first | with_reducible exact Below.refl _ _ | with_reducible assumption | with_reducible refine ExtD ?_ | with_reducible refine ExtDN ?_ | with_reducible refine ExtA ?_ | (with_reducible refine ExtR ?_ ?_; (first | omega | (dsimp only; omega) | (simp; done) | (simp; omega))) | (with_reducible refine ExtS ?_ ?_; (first | omega | (dsimp only; omega) | (simp; done) | (simp; omega))) | with_reducible refine Ext.tr ?_ (by with_reducible assumption)))).mono ?_); rintro e w1 ⟨rfl, hx1⟩; have b2 : Blk w1 w.heap.size 25 #[.int .i64 0, .int .i64 0, .int .i64 0, .int .i64 0, .int .i64 0, .slice none 0 0] := BlkE (BlkN rfl) hx1; have hX1 : Ext w w1 := (ExtA (Ext.rfl' w)).tr hx1; have hs1 : w.heap.size < w1.heap.size := b2.lt)
          | (go_at_call 70; (with_reducible refine (KR.out _ hX1).mono ?_); rintro e w2 ⟨A2, c2, rfl, ⟨D2, hs2, hX2, hT2, hF2⟩, ho2⟩)
          | (go_at_call 45; (with_reducible refine (KD.out _ _ _ hX2.ext (rd_own ho2) (own_capB ho2)).mono ?_); go_loud (rintro e w3 ⟨A3, c3, rfl, hx3, ho3⟩; have b3 : Blk w3 w.heap.size 25 #[.int .i64 0, .int .i64 0, .int .i64 0, .int .i64 0, .int .i64 0, .slice none 0 0] := BlkE (hT2.blk b2 Hnp.out) hx3; have l3 : w.heap.size ≠ w3.heap.size := Nat.ne_of_lt b3.lt; have b4 : Blk ((w3.alloc (.cells #[.int .i64 0, .int .i64 0, .int .i64 0, .int .i64 0, .int .i64 0, .slice none 0 0] 25)).setRow w3.heap.size #[.int .i64 m.gen, .int .i64 m.next, .int .i64 m.floor, .int .i64 m.snap, .int .i64 m.snapSeq, .slice A3 m.segs.length c3]) w.heap.size 25 #[.int .i64 0, .int .i64 0, .int .i64 0, .int .i64 0, .int .i64 0, .slice none 0 0] := BlkR l3 (BlkA b3)))
          | (with_reducible refine wpL_store_row rfl 25 (.tmp 9) (.tmp 31) rfl _ 25 _ _ rfl rfl (BlkN rfl) ((mf_size' _ _ _ _ _ _ _ _).trans (mf_size' _ _ _ _ _ _ _ _).symm) (mf_one' _ _ _ _ _ _ _ _) 6 mf_wide (mf_size' _ _ _ _ _ _ _ _) ?_)
          | (with_reducible refine wpL_load_row rfl 25 (.tmp 9) rfl _ 25 _ 6 rfl (Blk.setRow_ (BlkN rfl)) mf_wide (mf_size' _ _ _ _ _ _ _ _) ?_)
          | (with_reducible refine wpL_store_row rfl 25 (.tmp 2) (.tmp 37) rfl _ 25 _ _ rfl rfl b4 ((mf_size' _ _ _ _ _ _ _ _).trans (mf_size' _ _ _ _ _ _ _ _).symm) (mf_one' _ _ _ _ _ _ _ _) 6 mf_wide (mf_size' _ _ _ _ _ _ _ _) ?_))
        (try simp only [Exit.inBlock, Exit.then]); refine bodyPost_ret (v := .tuple #[.agg (mfcells m A3 c3), .bool true, .int .i64 0]) (res_row_tt rfl _ w.heap.size 25 _ 6 _ _ rfl rfl rfl (Blk.setRow_ b4) mf_wide rfl) rfl ?_
        rw [Hr2.out]
        exact ld_end HX.out.ext Hlt.out hX1 hs1 hX2 hT2 hF2 hx3 ho3 ((Ext.turn (ExtR (Nat.le_refl _) (ExtA (Ext.rfl' w3))) _).tr (turnRow (by simp)))
      · obtain ⟨E, hE⟩ : ∃ E, E = (manD l).2 := ⟨_, rfl⟩
        have Hr2 := Lib.hid (show loadD d = (d2, noMf, false, E) by rw [Hr.out, if_pos he, hE])
        rw [← hE] at KD he
        have hEi : ¬ ((E : Nat) : Int) = 0 := by omega
        obtain ⟨m, hm⟩ : ∃ m, m = (manD l).1 := ⟨_, rfl⟩
        rw [← hm] at KD
        unfold mfcells at KD
        clear hm hE Hr
        go_enter Tryz.func21, Tryz.ntmps21
        go_wp2_with (first
          | (go_at_call 69; (with_reducible refine (KS.out _ (by repeat (first | with_reducible exact Below.refl _ _ | with_reducible assumption | with_reducible refine ExtD ?_ | with_reducible refine ExtDN ?_ | with_reducible refine ExtA ?_ | (with_reducible refine ExtR ?_ ?_; (first | omega | (dsimp only; omega) | (simp; done) | (simp; omega))) | (with_reducible refine ExtS ?_ ?_; (first | omega | (dsimp only; omega) | (simp; done) | (simp; omega))) | with_reducible refine Ext.tr ?_ (by with_reducible assumption)))).mono ?_); rintro e w1 ⟨rfl, hx1⟩; have b2 : Blk w1 w.heap.size 25 #[.int .i64 0, .int .i64 0, .int .i64 0, .int .i64 0, .int .i64 0, .slice none 0 0] := BlkE (BlkN rfl) hx1; have hX1 : Ext w w1 := (ExtA (Ext.rfl' w)).tr hx1; have hs1 : w.heap.size < w1.heap.size := b2.lt)
          | (go_at_call 70; (with_reducible refine (KR.out _ hX1).mono ?_); rintro e w2 ⟨A2, c2, rfl, ⟨D2, hs2, hX2, hT2, hF2⟩, ho2⟩)
          | (go_at_call 45; (with_reducible refine (KD.out _ _ _ hX2.ext (rd_own ho2) (own_capB ho2)).mono ?_); go_loud (rintro e w3 ⟨A3, c3, rfl, hx3, ho3⟩; have b3 : Blk w3 w.heap.size 25 #[.int .i64 0, .int .i64 0, .int .i64 0, .int .i64 0, .int .i64 0, .slice none 0 0] := BlkE (hT2.blk b2 Hnp.out) hx3; have l3 : w.heap.size ≠ w3.heap.size := Nat.ne_of_lt b3.lt; have b4 : Blk ((w3.alloc (.cells #[.int .i64 0, .int .i64 0, .int .i64 0, .int .i64 0, .int .i64 0, .slice none 0 0] 25)).setRow w3.heap.size #[.int .i64 m.gen, .int .i64 m.next, .int .i64 m.floor, .int .i64 m.snap, .int .i64 m.snapSeq, .slice A3 m.segs.length c3]) w.heap.size 25 #[.int .i64 0, .int .i64 0, .int .i64 0, .int .i64 0, .int .i64 0, .slice none 0 0] := BlkR l3 (BlkA b3)))
          | (with_reducible refine wpL_store_row rfl 25 (.tmp 9) (.tmp 31) rfl _ 25 _ _ rfl rfl (BlkN rfl) ((mf_size' _ _ _ _ _ _ _ _).trans (mf_size' _ _ _ _ _ _ _ _).symm) (mf_one' _ _ _ _ _ _ _ _) 6 mf_wide (mf_size' _ _ _ _ _ _ _ _) ?_)
          | (with_reducible refine wpL_load_row rfl 25 (.tmp 9) rfl _ 25 _ 6 rfl (Blk.setRow_ (BlkN rfl)) mf_wide (mf_size' _ _ _ _ _ _ _ _) ?_)
          | (with_reducible refine wpL_store_row rfl 25 (.tmp 2) (.tmp 35) rfl _ 25 _ _ rfl rfl b4 ((mf_size' _ _ _ _ _ _ _ _).trans (mf_size' _ _ _ _ _ _ _ _).symm) (mf_one' _ _ _ _ _ _ _ _) 6 mf_wide (mf_size' _ _ _ _ _ _ _ _) ?_))
        (try simp only [Exit.inBlock, Exit.then]); refine bodyPost_ret (v := .tuple #[.agg (mfcells noMf none 0), .bool false, .int .i64 (E : Nat)]) (res_row_tt rfl _ w.heap.size 25 _ 6 _ _ rfl rfl rfl (Blk.setRow_ b4) mf_wide rfl) rfl ?_
        rw [Hr2.out]
        exact ld_end (m := noMf) HX.out.ext Hlt.out hX1 hs1 hX2 hT2 hF2 hx3 (World.ownsRow_nil _ _ _ _) ((Ext.turn (ExtR (Nat.le_refl _) (ExtA (Ext.rfl' w3))) _).tr (turnRow (by simp)))
    · obtain ⟨E, hE⟩ : ∃ E, E = (sizeD d nmM).2 := ⟨_, rfl⟩
      have Hr := Lib.hid (show loadD d = (d, noMf, false, E) by unfold loadD; rw [if_neg h51, if_pos h0, hE])
      rw [← hE] at KS h51 h0
      have h51i : ¬ ((E : Nat) : Int) = 51 := by omega
      have h0i : ¬ ((E : Nat) : Int) = 0 := by omega
      unfold nmM at KS
      clear h hI hN hlt hE
      go_enter Tryz.func21, Tryz.ntmps21
      go_wp2_with (first
        | (go_at_call 69; (with_reducible refine (KS.out _ (by repeat (first | with_reducible exact Below.refl _ _ | with_reducible assumption | with_reducible refine ExtD ?_ | with_reducible refine ExtDN ?_ | with_reducible refine ExtA ?_ | (with_reducible refine ExtR ?_ ?_; (first | omega | (dsimp only; omega) | (simp; done) | (simp; omega))) | (with_reducible refine ExtS ?_ ?_; (first | omega | (dsimp only; omega) | (simp; done) | (simp; omega))) | with_reducible refine Ext.tr ?_ (by with_reducible assumption)))).mono ?_); rintro e w1 ⟨rfl, hx1⟩; have b2 : Blk w1 w.heap.size 25 #[.int .i64 0, .int .i64 0, .int .i64 0, .int .i64 0, .int .i64 0, .slice none 0 0] := BlkE (BlkN rfl) hx1)
        | (with_reducible refine wpL_store_row rfl 25 (.tmp 2) (.tmp 20) rfl _ 25 _ _ rfl rfl b2 ((mf_size' _ _ _ _ _ _ _ _).trans (mf_size' _ _ _ _ _ _ _ _).symm) (mf_one' _ _ _ _ _ _ _ _) 6 mf_wide (mf_size' _ _ _ _ _ _ _ _) ?_))
      (try simp only [Exit.inBlock, Exit.then]); refine bodyPost_ret (v := .tuple #[.agg (mfcells noMf none 0), .bool false, .int .i64 (E : Nat)]) (res_row_tt rfl _ w.heap.size 25 _ 6 _ _ rfl rfl rfl (Blk.setRow_ b2) mf_wide rfl) rfl ?_
      exact ld_none Hr.out HX.out (ExtR (Nat.le_refl _) (Ext.tr (ExtA (Ext.rfl' w)) hx1))
end Go.Proofs.YtjajbbgebblalaaGreatDoor

namespace Go.Proofs.YtjajbbgebblalaaGreatDoor
open Go.RowKit
set_option linter.unusedVariables false
set_option linter.unusedSimpArgs false
open Go.Maps
theorem manB_of {m : Mf} (h : (manE m).2 = 0) : manB m = true := by
  cases hb : manB m with
  | true => rfl
  | false => rw [manE_bad hb] at h; cases h
theorem sw_load {d : Dk} {m : Mf} (hI : DkInv d) (h : HasM d (manE m).1) (hm : manB m = true) (keep : List Int) : ∃ d', loadD (restartD d keep) = (d', m, true, 0) := by
  have hf := restart_safe hI h rfl keep
  obtain ⟨h1, d', h2, _⟩ := file_read (inv_restart hI keep) rfl hf rM
  dsimp only at h1 h2
  refine ⟨d', ?_⟩
  unfold loadD
  rw [h1, if_neg (by simp), if_neg (by simp)]
  dsimp only
  rw [h2, if_neg (by rw [manD_enc hm]; simp), manD_enc hm]
theorem sw_saved {d : Dk} {l x : Mf} (hI : DkInv d) (h : HasM d (manE l).1) (hl : manB l = true) : ∃ mm, manB mm = true ∧ HasM (saveD d x).1 (manE mm).1 ∧ (((saveD d x).2 = 0 ∧ mm = x) ∨ ((saveD d x).2 ≠ 0 ∧ mm = l)) := by
  unfold saveD
  by_cases hE : (manE x).2 = 0
  · rw [if_neg (by simp [hE])]
    obtain ⟨h1, h2⟩ := sv_swap (b := (manE x).1) hI h
    by_cases h0 : (sv4 d (manE x).1).2 = 0
    · exact ⟨x, manB_of hE, h1 h0, .inl ⟨h0, rfl⟩⟩
    · exact ⟨l, hl, h2 h0, .inr ⟨h0, rfl⟩⟩
  · rw [if_pos hE]
    exact ⟨l, hl, h, .inr ⟨hE, rfl⟩⟩
theorem saveD_inv {d : Dk} (h : DkInv d) (m : Mf) : DkInv (saveD d m).1 := by
  unfold saveD
  split
  · exact h
  · exact (sv_inv h _).2.2.2
/-- The disk behind the saves that go well. -/
def dSv (m : Mf) (k : Int) : Dk := ⟨[⟨nmM, (manE m).1, (manE m).1.length⟩], 1048576, ((manE m).1.length : Nat), k, 0, 0, false⟩
theorem sw_first : saveD (newD 1048576) m1 = (dSv m1 4, 0) := by
  unfold saveD
  rw [if_neg (by rw [m1_err]; simp), sv_free (d := newD 1048576) rfl rfl (.inl rfl) rfl (by rw [m1_len]; decide)]
  rfl
theorem sw_second {m : Mf} (h : manB m = true) : saveD (dSv m1 4) m = (dSv m 8, 0) := by
  unfold saveD
  have hl := manE_len m
  rw [if_neg (by rw [manE_ok h]; simp), sv_free (d := dSv m1 4) rfl rfl (.inr ⟨_, rfl⟩) (by simp [dSv, sumF]) (by unfold dSv; dsimp only; rw [m1_len]; omega)]
  rfl
theorem sw_inv : DkInv (dSv m1 4) := by have := saveD_inv (inv_new 1048576) m1; rw [sw_first] at this; exact this
theorem sw_inv2 {m : Mf} (h : manB m = true) : DkInv (dSv m 8) := by have := saveD_inv sw_inv m; rw [sw_second h] at this; exact this
def dFz (m : Mf) (k n : Int) : Dk := { dSv m k with fuse := max 0 n }
theorem sw_all {l x : Mf} {k n : Int} (hl : manB l = true) (hi : DkInv (dSv l k)) (hn : n ≤ 9223372036854775807) (keep : List Int) :
    DkInv (dFz l k n) ∧ DkInv (saveD (dFz l k n) x).1 ∧ ∃ mm d', loadD (restartD (saveD (dFz l k n) x).1 keep) = (d', mm, true, 0) ∧ (((saveD (dFz l k n) x).2 = 0 ∧ mm = x) ∨ ((saveD (dFz l k n) x).2 ≠ 0 ∧ mm = l)) := by
  have h1 : DkInv (dFz l k n) := inv_fuse hi n hn
  have h2 := saveD_inv h1 x
  obtain ⟨mm, h3, h4, h5⟩ := sw_saved (x := x) h1 (l := l) (by unfold HasM; simp [dFz, dSv]) hl
  obtain ⟨d', h6⟩ := sw_load h2 h4 h3 keep
  exact ⟨h1, h2, mm, d', h6, h5⟩
end Go.Proofs.YtjajbbgebblalaaGreatDoor

namespace Go.Proofs.YtjajbbgebblalaaGreatDoor
open Go.RowKit
set_option linter.unusedVariables false
set_option linter.unusedSimpArgs false
open Go.Maps
set_option maxRecDepth 100000 in
set_option maxHeartbeats 2000000 in
theorem mfirst_blk (w : World) : Calls Tryz.prog 44 #[] w fun e w' => ∃ p, e = .returned (.agg #[.int .i64 1, .int .i64 2, .int .i64 0, .int .i64 0, .int .i64 0, .slice (some ⟨p, 0, none⟩) 1 1]) ∧ Ext w w' ∧ w.heap.size ≤ p ∧ Blk w' p 115 (sgcells ⟨1, 1, 0, 0⟩) := by
  go_enter Tryz.func44, Tryz.ntmps44
  go_wp2_with (with_reducible refine wpL_store_row rfl 25 (.tmp 0) (.tmp 3) rfl _ 25 _ _ rfl rfl (BlkA (BlkN rfl)) ((mf_size' _ _ _ _ _ _ _ _).trans (mf_size' _ _ _ _ _ _ _ _).symm) (mf_one' _ _ _ _ _ _ _ _) 6 mf_wide (mf_size' _ _ _ _ _ _ _ _) ?_)
  (try simp only [Exit.inBlock, Exit.then]); refine bodyPost_ret (v := .agg #[.int .i64 1, .int .i64 2, .int .i64 0, .int .i64 0, .int .i64 0, .slice (some ⟨w.heap.size + 1, 0, none⟩) 1 1]) (res_row rfl _ _ w.heap.size 25 _ 6 rfl (Blk.setRow_ (BlkA (BlkN rfl))) mf_wide rfl) rfl ?_
  have hb : Blk ((w.alloc (.cells #[.int .i64 0, .int .i64 0, .int .i64 0, .int .i64 0, .int .i64 0, .slice none 0 0] 25)).alloc (.cells #[.int .i64 1, .int .i64 1, .int .i64 0, .int .i64 0] 115)) (w.heap.size + 1) 115 (sgcells ⟨1, 1, 0, 0⟩) := BlkN (by simp)
  exact ⟨_, rfl, (by repeat (first | with_reducible exact Below.refl _ _ | with_reducible assumption | with_reducible refine ExtD ?_ | with_reducible refine ExtDN ?_ | with_reducible refine ExtA ?_ | (with_reducible refine ExtR ?_ ?_; (first | omega | (dsimp only; omega) | (simp; done) | (simp; omega))) | (with_reducible refine ExtS ?_ ?_; (first | omega | (dsimp only; omega) | (simp; done) | (simp; omega))) | with_reducible refine Ext.tr ?_ (by with_reducible assumption))), by omega, BlkR (by omega) hb⟩
end Go.Proofs.YtjajbbgebblalaaGreatDoor
