/-
  The walk of SimfsFuse.
-/
import Derived.Test.YtomnllkliifeoaaFuA
namespace Go.Proofs.Ytomnllkliifeoaa
open Go.RowKit
set_option linter.unusedVariables false
set_option linter.unusedSimpArgs false
open Go.Maps
theorem OwnC.low {w : World} {base base' n : Nat} {v : Value} {l : List UInt8} (h : OwnC w base v n l) (hb : base' ≤ base) : OwnC w base' v n l := by
  refine ⟨h.1, ?_⟩
  rcases h.2 with h2 | ⟨g, cap, cur, h1, h2, h3⟩
  · exact .inl h2
  · exact .inr ⟨g, cap, cur, h1, Nat.le_trans hb h2, h3⟩
theorem FsX.low {W W1 w : World} {g b : Nat} {d : Dk} {D : DataW Value} {hs : List HF} (h : FsX W1 w g d b D hs) (hx : Ext W W1) : FsX W w g d b D hs :=
  { h with ext := hx.tr h.ext, fil := fun f hf => ⟨(h.fil f hf).1, (h.fil f hf).2.low hx.size⟩, base := fun r hr => Nat.le_trans hx.size (h.base r hr) }
def Disj (F F' : List Nat) : Prop := ∀ r ∈ F, r ∉ F'
theorem Disj.symm {F F' : List Nat} (h : Disj F F') : Disj F' F := fun r hr hc => h r hc hr
theorem Disj.to {w : World} {F F1 F2 : List Nat} (h : Disj F F2) (hf : ∀ r ∈ F1, r ∈ F ∨ w.heap.size ≤ r) (h2 : ∀ r ∈ F2, r < w.heap.size) : Disj F1 F2 := fun r hr hc => by
  rcases hf r hr with h3 | h3
  · exact h r h3 hc
  · have := h2 r hc; omega
def FuseR (W : World) (g b g2 b2 : Nat) (n : Int) (c34 : Value) (wr : World) : Prop :=
  ∃ (k : Nat) (df dg : Dk) (Df Dg : DataW Value) (hf hg : List HF), c34 = .int .i64 k ∧ DkInv df ∧ DkInv dg ∧ df.steps ≤ (k : Nat) ∧ dg.steps ≤ (k : Nat) ∧ FsX W wr g df b Df hf ∧ FsX W wr g2 dg b2 Dg hg ∧ Disj (foot g b hf) (foot g2 b2 hg) ∧ (df.down = true ∨ FuseRel df dg n)
set_option maxRecDepth 100000 in
set_option maxHeartbeats 8000000 in
theorem simfsFuse_walk (room n : Int) (A : Option Addr) (c : Nat) (ops : List HO) (w : World) (hroom : IsI64 room) (hn : IsI64 n) (hr : OpsRd w A ops) (hl : ops.length * 104 ≤ 140737488351232) :
    Calls Try.prog 7 #[.int .i64 room, .int .i64 n, .slice A ops.length c] w fun e w' => e = .returned (.bool true) ∧ Ext w w' := by
  unfold IsI64 at hn
  have KH := Lib.hid head_any
  have KN := Lib.hid (newK room)
  have hal := alloc_op
  have Hr := Lib.hid hr
  clear hr
  by_cases hn1 : n < 1
  · have d1 : decide (n < 1) = true := by simpa using hn1
    go_enter Try.func7, Try.ntmps7
    go_wp2_with (first
      | (go_at_call 14; (with_reducible refine (KH.out _).mono ?_); rintro e w1 ⟨rfl, hx1⟩)
      | (go_at_call 15; (with_reducible refine (KN.out w2).mono ?_); rintro e w3 ⟨g2, b2, rfl, hX3⟩)
      | (go_at_call 15; (with_reducible refine (KN.out _).mono ?_); rintro e w2 ⟨g, b, rfl, hX2⟩))
    go_ret
    exact ⟨rfl, (hx1.tr hX2.ext).tr hX3.ext⟩
  · have d1 : decide (n < 1) = false := by simpa using hn1
    have KZ := Lib.hid fun W w1 g b D hs (h : FsX W w1 g (newD room) b D hs) => fuseK h n
    go_enter Try.func7, Try.ntmps7
    go_wp2_with (first
      | (go_at_call 14; (with_reducible refine (KH.out _).mono ?_); rintro e w1 ⟨rfl, hx1⟩)
      | (go_at_call 15; (with_reducible refine (KN.out w2).mono ?_); rintro e w3 ⟨g2, b2, rfl, hX3⟩; have hX23 := hX2.ext_ hX3.ext)
      | (go_at_call 15; (with_reducible refine (KN.out _).mono ?_); rintro e w2 ⟨g, b, rfl, hX2⟩)
      | (go_at_call 26; go_loud ((with_reducible refine (KZ.out _ _ _ _ _ _ hX23).mono ?_); rintro e w4 ⟨rfl, D4, hs4, hX4, ht4, hf4⟩)))
    go_loopw [34] (fun c34 wr => FuseR w g b g2 b2 n c34 wr) (fun c34 _ => ops.length - (intOf c34).toNat)
    case atStart =>
      have hdj : Disj (foot g b []) (foot g2 b2 []) := fun r hr hc => by
        have h1 := hX2.lt r hr
        have h2 := hX3.base r hc
        omega
      refine ⟨0, { newD room with fuse := max 0 n }, newD room, D4, _, hs4, [], rfl, inv_fuse (inv_new room) n hn.2, inv_new room, by simp [newD], by simp [newD], hX4.low hx1, (hX3.low (hx1.tr hX2.ext)).keep ht4 hdj (fun r hr => Nat.le_trans hx1.size (hX23.base r hr)), hdj.to hf4 hX3.lt, .inr ⟨rfl, rfl, ?_, ?_⟩⟩
      · show (0 : Int) < n; omega
      · show _ = { newD room with fuse := n - 0 }
        rw [show max 0 n = n - 0 by omega]
    case round =>
      obtain ⟨k, df, dg, Df, Dg, hsf, hsg, rfl, hIf, hIg, hsf1, hsg1, hXf, hXg, hdj, hrel⟩ := hrel
      by_cases hlt : k < ops.length
      · obtain ⟨ob, oo, o, rfl, hok, hc, ho⟩ := op_at Hr.out hlt
        have Hc := Lib.hid (range_ext hc hXf.ext)
        have Ho := Lib.hid ho
        have e0 : (wr.alloc (.cells (opcells o) 49)).cell? ⟨wr.heap.size, 0, none⟩ = some (.int .i64 o.1.k) := (BlkN rfl).cell 0
        have HXf := Lib.hid hXf
        have HXg := Lib.hid hXg
        have Hdj := Lib.hid hdj
        have HIf := Lib.hid hIf
        have HIg := Lib.hid hIg
        have Hrel := Lib.hid hrel
        have hok2 := ho.2.2.1
        unfold IsI64 at hok2
        clear hc hok hXf hXg hdj hrel ho
        by_cases hkk : 0 ≤ o.1.k ∧ o.1.k ≤ 7
        · have q1 : decide (7 < o.1.k) = false := by simp; omega
          have q2 : decide (o.1.k < 0) = false := by simp; omega
          have KD := Lib.hid fun (w1 : World) (h : FsX w w1 g df b Df hsf) => downK h
          have HU := Lib.hid hkk
          have hstf : df.steps ≤ 4611686018427387904 := by omega
          have hstg : dg.steps ≤ 4611686018427387904 := by omega
          by_cases hdn : df.down = true
          · have KC := Lib.hid fun (w1 : World) (h : FsX w w1 g df b Df hsf) (h2 : OpOk w1 o) => call_any w w1 g b df Df hsf o h hIf hstf h2
            rw [callD_down hdn o.1 HU.out.1 HU.out.2] at KC
            unfold CallPost at KC
            dsimp only [List.length_nil] at KC
            rw [hdn] at KD
            have Hdn := Lib.hid hdn
            obtain ⟨q, hq⟩ : ∃ q, q = o.1.k := ⟨_, rfl⟩
            rw [← hq] at e0 q1 q2
            clear hok2 hq hIf hIg hkk hdn
            go_wp2_with (first
              | (change wpList _ _ _ (⟨some 37, _, _, _, _, _⟩ :: _) _ _; refine wpL_load_op rfl (.tmp 36) rfl ob (oo + k * 7) rfl o Hc.out ?_)
              | (change wpList _ _ _ (⟨none, .store _ (.tmp 10) _, _, _, _, _⟩ :: _) _ _; refine wpL_store_new rfl 49 (.tmp 10) (.tmp 37) rfl wr.heap.size 49 (opcells noOp) (opcells o) rfl rfl rfl rfl (opcells_one o) 7 op_wide rfl ?_)
              | (go_at_call 33; go_loud ((with_reducible refine (KD.out _ (HXf.out.ext_ (by repeat (first | with_reducible exact Below.refl _ _ | with_reducible assumption | with_reducible refine ExtD ?_ | with_reducible refine ExtDN ?_ | with_reducible refine ExtA ?_ | (with_reducible refine ExtR ?_ ?_; (first | omega | (dsimp only; omega) | (simp; done) | (simp; omega))) | (with_reducible refine ExtS ?_ ?_; (first | omega | (dsimp only; omega) | (simp; done) | (simp; omega))) | with_reducible refine Ext.tr ?_ (by with_reducible assumption))))).mono ?_); rintro e w1 ⟨rfl, hx1⟩; have hx1w : Ext wr w1 := (ExtA (Ext.rfl' wr)).tr hx1; have hX1 := HXf.out.ext_ hx1w; have hb1 : Blk w1 wr.heap.size 49 (opcells o) := hx1.blk (BlkN rfl)))
              | (change wpList _ _ _ (⟨some 50, _, _, _, _, _⟩ :: _) _ _; refine wpL_load_row (o := ⟨some 50, _, _, _, _, _⟩) rfl 49 (.tmp 10) rfl wr.heap.size 49 (opcells o) 7 rfl hb1 op_wide rfl ?_)
              | (go_at_call 30; go_loud ((with_reducible refine (KC.out _ hX1 (Ho.out.ext hX1.ext)).mono ?_); rintro e w2 ⟨A2, c2, rfl, ⟨D2, hs2, hX2, ht2, hf2⟩, hown2⟩)))
            go_roundw
            case rel =>
              have hXg1 := HXg.out.ext_ hx1w
              exact ⟨k + 1, df, dg, D2, Dg, hs2, hsg, by go_num, HIf.out, HIg.out, by omega, by omega, hX2, hXg1.keep ht2 Hdj.out (fun r hr => hX1.base r hr), Hdj.out.to hf2 hXg1.lt, .inl Hdn.out⟩
            case measure => simp [intOf]; omega
          · have hrl := (Hrel.out).resolve_left hdn
            have hdn' : df.down = false := by simpa using hdn
            rw [hdn'] at KD
            obtain ⟨hg0, hgd, hsn, hfe⟩ := hrl
            have hlaw := fuse_law hg0 hgd (rfl : n - dg.steps = n - dg.steps) (by omega) o.1 hkk.1 hkk.2
            rw [← hfe] at hlaw
            have KC := Lib.hid fun (w1 : World) (h : FsX w w1 g df b Df hsf) (h2 : OpOk w1 o) => call_any w w1 g b df Df hsf o h hIf hstf h2
            have KG := Lib.hid fun (w1 : World) (h : FsX w w1 g2 dg b2 Dg hsg) (h2 : OpOk w1 o) => call_any w w1 g2 b2 dg Dg hsg o h hIg hstg h2
            have i1 := inv_call hIf o.1 Ho.out.2.2.2.1
            have i2 := inv_call hIg o.1 Ho.out.2.2.2.1
            have s1 := (callD_steps df o.1).2
            have s2 := (callD_steps dg o.1).2
            obtain ⟨d1, l1, n1, E1, hc1⟩ : ∃ d1 l1 n1 E1, callD df o.1 = (d1, l1, n1, E1) := ⟨_, _, _, _, rfl⟩
            obtain ⟨d2, l2, n2, E2, hc2⟩ : ∃ d2 l2 n2 E2, callD dg o.1 = (d2, l2, n2, E2) := ⟨_, _, _, _, rfl⟩
            rw [hc1] at KC hlaw i1 s1
            rw [hc2] at KG hlaw i2 s2
            unfold FuseOut at hlaw
            unfold CallPost at KC KG
            dsimp only at KC KG hlaw i1 i2 s1 s2
            have KI := Lib.hid fun (w1 : World) (h : FsX w w1 g df b Df hsf) => imageK h hIf
            have KJ := Lib.hid fun (w1 : World) (D1 : DataW Value) (hs1 : List HF) (h : FsX w w1 g d1 b D1 hs1) => imageK h i1
            have KK := Lib.hid fun (w1 : World) (D1 : DataW Value) (hs1 : List HF) (h : FsX w w1 g2 d2 b2 D1 hs1) => imageK h i2
            have KE := Lib.hid fun (w1 : World) (D1 : DataW Value) (hs1 : List HF) (h : FsX w w1 g d1 b D1 hs1) => downK h
            have KS := Lib.hid fun (w1 : World) (D1 : DataW Value) (hs1 : List HF) (h : FsX w w1 g d1 b D1 hs1) => stepsK h
            have KT := Lib.hid fun (w1 : World) (D1 : DataW Value) (hs1 : List HF) (h : FsX w w1 g2 d2 b2 D1 hs1) => stepsK h
            unfold GaveF at KI KJ KK
            have hbf : wr.heap.size ∉ foot g b hsf := fun hc => by have := HXf.out.lt _ hc; omega
            have hbg : wr.heap.size ∉ foot g2 b2 hsg := fun hc => by have := HXg.out.lt _ hc; omega
            obtain ⟨a1, ha1⟩ : ∃ a1, a1 = l1.length := ⟨_, rfl⟩
            obtain ⟨a2, ha2⟩ : ∃ a2, a2 = l2.length := ⟨_, rfl⟩
            obtain ⟨iL, hiL⟩ : ∃ iL, iL = (imgL df).length := ⟨_, rfl⟩
            obtain ⟨jL, hjL⟩ : ∃ jL, jL = (imgL d1).length := ⟨_, rfl⟩
            obtain ⟨kL, hkL⟩ : ∃ kL, kL = (imgL d2).length := ⟨_, rfl⟩
            rw [← ha1] at KC
            rw [← ha2] at KG
            rw [← hiL] at KI
            rw [← hjL] at KJ
            rw [← hkL] at KK
            have HiL := Lib.hid hiL
            have HjL := Lib.hid hjL
            have HkL := Lib.hid hkL
            have HI1 := Lib.hid i1
            have HI2 := Lib.hid i2
            have hs1k : d1.steps ≤ (k + 1 : Nat) := by omega
            have hs2k : d2.steps ≤ (k + 1 : Nat) := by omega
            obtain ⟨q, hq⟩ : ∃ q, q = o.1.k := ⟨_, rfl⟩
            rw [← hq] at e0 q1 q2 hlaw
            have Hq := Lib.hid hq
            clear hfe hc1 hc2 ha1 ha2 hiL hjL hkL i1 i2 hIf hIg hg0 hgd hok2 hkk hq hdn' hdn
            rcases hlaw with ⟨x1, x2, x3⟩ | ⟨x1, x2, x3, x4, x5, x6⟩
            · have hss : d1.steps = d2.steps := by rw [x3.2.2.2]
              have t1 : decide (n ≤ d1.steps) = false := by have := x3.2.2.1; simp; omega
              rw [← hss] at KT
              rw [x1] at KE
              subst x2
              have t2 : ((E1 : Int) != E1) = false := by simp
              have t3 : (d1.steps != d1.steps) = false := by simp
              have X3 := Lib.hid x3
              clear x1 x3 hss
              go_wp2_with (first
                | (change wpList _ _ _ (⟨some 37, _, _, _, _, _⟩ :: _) _ _; refine wpL_load_op rfl (.tmp 36) rfl ob (oo + k * 7) rfl o Hc.out ?_)
                | (change wpList _ _ _ (⟨none, .store _ (.tmp 10) _, _, _, _, _⟩ :: _) _ _; refine wpL_store_new rfl 49 (.tmp 10) (.tmp 37) rfl wr.heap.size 49 (opcells noOp) (opcells o) rfl rfl rfl rfl (opcells_one o) 7 op_wide rfl ?_)
                | (go_at_call 33; (with_reducible refine (KE.out _ _ _ hXf5).mono ?_); rintro e w6 ⟨rfl, hx6⟩; have hXf6 := hXf5.ext_ hx6; have hXg6 := hX5.ext_ hx6; have e6 : w6.cell? ⟨wr.heap.size, 0, none⟩ = some (.int .i64 q) := hx6.cell e5)
                | (go_at_call 33; go_loud ((with_reducible refine (KD.out _ (HXf.out.ext_ (by repeat (first | with_reducible exact Below.refl _ _ | with_reducible assumption | with_reducible refine ExtD ?_ | with_reducible refine ExtDN ?_ | with_reducible refine ExtA ?_ | (with_reducible refine ExtR ?_ ?_; (first | omega | (dsimp only; omega) | (simp; done) | (simp; omega))) | (with_reducible refine ExtS ?_ ?_; (first | omega | (dsimp only; omega) | (simp; done) | (simp; omega))) | with_reducible refine Ext.tr ?_ (by with_reducible assumption))))).mono ?_); rintro e w1 ⟨rfl, hx1⟩; have hx1w : Ext wr w1 := (ExtA (Ext.rfl' wr)).tr hx1; have hX1 := HXf.out.ext_ hx1w; have hb1 : Blk w1 wr.heap.size 49 (opcells o) := hx1.blk (BlkN rfl)))
                | (go_at_call 34; (with_reducible refine (KS.out _ _ _ (hXf6.ext_ (by repeat (first | with_reducible exact Below.refl _ _ | with_reducible assumption | with_reducible refine ExtD ?_ | with_reducible refine ExtDN ?_ | with_reducible refine ExtA ?_ | (with_reducible refine ExtR ?_ ?_; (first | omega | (dsimp only; omega) | (simp; done) | (simp; omega))) | (with_reducible refine ExtS ?_ ?_; (first | omega | (dsimp only; omega) | (simp; done) | (simp; omega))) | with_reducible refine Ext.tr ?_ (by with_reducible assumption))))).mono ?_); rintro e w9 ⟨rfl, hx9⟩)
                | (go_at_call 34; (with_reducible refine (KT.out _ _ _ (hXg6.ext_ (by repeat (first | with_reducible exact Below.refl _ _ | with_reducible assumption | with_reducible refine ExtD ?_ | with_reducible refine ExtDN ?_ | with_reducible refine ExtA ?_ | (with_reducible refine ExtR ?_ ?_; (first | omega | (dsimp only; omega) | (simp; done) | (simp; omega))) | (with_reducible refine ExtS ?_ ?_; (first | omega | (dsimp only; omega) | (simp; done) | (simp; omega))) | with_reducible refine Ext.tr ?_ (by with_reducible assumption))))).mono ?_); rintro e w8 ⟨rfl, hx8⟩)
                | (go_at_call 34; (with_reducible refine (KS.out _ _ _ hXf6).mono ?_); rintro e w7 ⟨rfl, hx7⟩)
                | (go_at_call 29; (with_reducible refine (KI.out _ hX1).mono ?_); rintro e w3 ⟨A3, c3, hv3, rfl, hm3, hx3, hown3⟩; have hx3w : Ext wr w3 := hx1w.tr hx3; have hX3 := hX1.ext_ hx3; have hb3 : Blk w3 wr.heap.size 49 (opcells o) := hx3.blk hb1)
                | (change wpList _ _ _ (⟨some 61, _, _, _, _, _⟩ :: _) _ _; refine wpL_load_row (o := ⟨some 61, _, _, _, _, _⟩) rfl 49 (.tmp 10) rfl wr.heap.size 49 (opcells o) 7 rfl hb3 op_wide rfl ?_)
                | (go_at_call 30; (with_reducible refine (KG.out _ hXg4 (Ho.out.ext hX4.ext)).mono ?_); rintro e w5 ⟨A5, c5, rfl, ⟨D5, hs5, hX5, ht5, hf5⟩, -⟩; have hXf5 := hX4.keep ht5 hdj4.symm (fun r hr => hXg4.base r hr); have hb5 : Blk w5 wr.heap.size 49 (opcells o) := ht5.blk hb4 hbg; have e5 : w5.cell? ⟨wr.heap.size, 0, none⟩ = some (.int .i64 q) := (hb5.cell 0).trans (by rw [Hq.out]; rfl); have hdj5 := (hdj4.symm.to hf5 hX4.lt).symm)
                | (change wpList _ _ _ (⟨some 68, _, _, _, _, _⟩ :: _) _ _; refine wpL_load_row (o := ⟨some 68, _, _, _, _, _⟩) rfl 49 (.tmp 10) rfl wr.heap.size 49 (opcells o) 7 rfl hb4 op_wide rfl ?_)
                | (go_at_call 30; go_loud ((with_reducible refine (KC.out _ hX3 (Ho.out.ext hX3.ext)).mono ?_); rintro e w4 ⟨A4, c4, rfl, ⟨D4, hs4, hX4, ht4, hf4⟩, -⟩; have hXg4 := (HXg.out.ext_ hx3w).keep ht4 Hdj.out (fun r hr => hX3.base r hr); have hb4 : Blk w4 wr.heap.size 49 (opcells o) := ht4.blk hb3 hbf; have hdj4 := Hdj.out.to hf4 (HXg.out.ext_ hx3w).lt)))
              go_roundw
              case rel => exact ⟨k + 1, d1, d2, _, _, _, _, by go_num, HI1.out, HI2.out, hs1k, hs2k, hXf6.ext_ (by repeat (first | with_reducible exact Below.refl _ _ | with_reducible assumption | with_reducible refine ExtD ?_ | with_reducible refine ExtDN ?_ | with_reducible refine ExtA ?_ | (with_reducible refine ExtR ?_ ?_; (first | omega | (dsimp only; omega) | (simp; done) | (simp; omega))) | (with_reducible refine ExtS ?_ ?_; (first | omega | (dsimp only; omega) | (simp; done) | (simp; omega))) | with_reducible refine Ext.tr ?_ (by with_reducible assumption))), hXg6.ext_ (by repeat (first | with_reducible exact Below.refl _ _ | with_reducible assumption | with_reducible refine ExtD ?_ | with_reducible refine ExtDN ?_ | with_reducible refine ExtA ?_ | (with_reducible refine ExtR ?_ ?_; (first | omega | (dsimp only; omega) | (simp; done) | (simp; omega))) | (with_reducible refine ExtS ?_ ?_; (first | omega | (dsimp only; omega) | (simp; done) | (simp; omega))) | with_reducible refine Ext.tr ?_ (by with_reducible assumption))), hdj5, .inr X3.out⟩
              case measure => simp [intOf]; omega
            · rw [x1] at KE
              rw [x4] at KS
              subst x2 x3
              have hw1 : IntKind.i64.wrap (n - 1) = n - 1 := by rw [IntKind.wrap_i64]; omega
              have t3 : (n - 1 != n - 1) = false := by simp
              have hfl : ∀ f ∈ imgL d1, f.data.length ≤ maxLen := fun f hf => by
                have h1 : f.data.length ≤ sumV (imgL d1) := le_sum_mem (List.mem_map.2 ⟨f, hf, rfl⟩)
                rw [sumV_img] at h1
                have h2 : d1.used = (sumF d1.files : Nat) := HI1.out.ok.1
                have h3 := HI1.out.ok.2
                simp only [maxLen]
                omega
              have hj7 : jL ≤ 700 := by rw [HjL.out, imgL_len]; exact HI1.out.cnt
              have HF1 := Lib.hid hfl
              have X1 := Lib.hid x1
              clear x1 x4 hfl
              by_cases hk1 : q = 1
              · have hfe : imgL d2 = imgL d1 := by unfold imgL; rw [x6 hk1]
                have HE := Lib.hid hfe
                obtain rfl : kL = jL := by rw [HkL.out, HjL.out, hfe]
                have z1 : (q == 1) = true := by simpa using hk1
                have z2 : (q != 1) = false := by simpa using hk1
                clear x5 x6 hfe hk1
                go_wp2_with (first
                  | (change wpList _ _ _ (⟨some 37, _, _, _, _, _⟩ :: _) _ _; refine wpL_load_op rfl (.tmp 36) rfl ob (oo + k * 7) rfl o Hc.out ?_)
                  | (change wpList _ _ _ (⟨none, .store _ (.tmp 10) _, _, _, _, _⟩ :: _) _ _; refine wpL_store_new rfl 49 (.tmp 10) (.tmp 37) rfl wr.heap.size 49 (opcells noOp) (opcells o) rfl rfl rfl rfl (opcells_one o) 7 op_wide rfl ?_)
                  | (go_at_call 33; (with_reducible refine (KE.out _ _ _ hXf5).mono ?_); rintro e w6 ⟨rfl, hx6⟩; have hXf6 := hXf5.ext_ hx6; have hXg6 := hX5.ext_ hx6; have e6 : w6.cell? ⟨wr.heap.size, 0, none⟩ = some (.int .i64 q) := hx6.cell e5)
                  | (go_at_call 33; go_loud ((with_reducible refine (KD.out _ (HXf.out.ext_ (by repeat (first | with_reducible exact Below.refl _ _ | with_reducible assumption | with_reducible refine ExtD ?_ | with_reducible refine ExtDN ?_ | with_reducible refine ExtA ?_ | (with_reducible refine ExtR ?_ ?_; (first | omega | (dsimp only; omega) | (simp; done) | (simp; omega))) | (with_reducible refine ExtS ?_ ?_; (first | omega | (dsimp only; omega) | (simp; done) | (simp; omega))) | with_reducible refine Ext.tr ?_ (by with_reducible assumption))))).mono ?_); rintro e w1 ⟨rfl, hx1⟩; have hx1w : Ext wr w1 := (ExtA (Ext.rfl' wr)).tr hx1; have hX1 := HXf.out.ext_ hx1w; have hb1 : Blk w1 wr.heap.size 49 (opcells o) := hx1.blk (BlkN rfl)))
                  | (go_at_call 34; (with_reducible refine (KS.out _ _ _ hXf6).mono ?_); rintro e w7 ⟨rfl, hx7⟩; have hXf7 := hXf6.ext_ hx7; have hXg7 := hXg6.ext_ hx7; have e7 : w7.cell? ⟨wr.heap.size, 0, none⟩ = some (.int .i64 q) := hx7.cell e6)
                  | (go_at_call 29; (with_reducible refine (KK.out _ _ _ hXg8).mono ?_); rintro e w9 ⟨A9, c9, hv9, rfl, hm9, hx9, hown9⟩; have hXf9 := hXf8.ext_ hx9; have hXg9 := hXg8.ext_ hx9; have R9 : FlRd w9 A9 kL (imgL d1) := (by have h2 := hown9.rd; rw [hm9, HE.out] at h2; exact h2))
                  | (go_at_call 29; (with_reducible refine (KJ.out _ _ _ hXf7).mono ?_); rintro e w8 ⟨A8, c8, hv8, rfl, hm8, hx8, hown8⟩; have e8 : w8.cell? ⟨wr.heap.size, 0, none⟩ = some (.int .i64 q) := hx8.cell e7; have hXf8 := hXf7.ext_ hx8; have hXg8 := hXg7.ext_ hx8; have R8 : FlRd w8 A8 kL (imgL d1) := (by have h2 := hown8.rd; rw [hm8] at h2; exact h2))
                  | (go_at_call 32; go_loud ((with_reducible refine (fsame_yes A8 A9 kL c8 c9 (imgL d1) w9 (R8.ext hx9) R9 (by simp only [maxLen]; omega) HF1.out).mono ?_); rintro e w10 ⟨rfl, hx10⟩))
                  | (go_at_call 29; (with_reducible refine (KI.out _ hX1).mono ?_); rintro e w3 ⟨A3, c3, hv3, rfl, hm3, hx3, hown3⟩; have hx3w : Ext wr w3 := hx1w.tr hx3; have hX3 := hX1.ext_ hx3; have hb3 : Blk w3 wr.heap.size 49 (opcells o) := hx3.blk hb1)
                  | (change wpList _ _ _ (⟨some 61, _, _, _, _, _⟩ :: _) _ _; refine wpL_load_row (o := ⟨some 61, _, _, _, _, _⟩) rfl 49 (.tmp 10) rfl wr.heap.size 49 (opcells o) 7 rfl hb3 op_wide rfl ?_)
                  | (go_at_call 30; (with_reducible refine (KG.out _ hXg4 (Ho.out.ext hX4.ext)).mono ?_); rintro e w5 ⟨A5, c5, rfl, ⟨D5, hs5, hX5, ht5, hf5⟩, -⟩; have hXf5 := hX4.keep ht5 hdj4.symm (fun r hr => hXg4.base r hr); have hb5 : Blk w5 wr.heap.size 49 (opcells o) := ht5.blk hb4 hbg; have e5 : w5.cell? ⟨wr.heap.size, 0, none⟩ = some (.int .i64 q) := (hb5.cell 0).trans (by rw [Hq.out]; rfl); have hdj5 := (hdj4.symm.to hf5 hX4.lt).symm)
                  | (change wpList _ _ _ (⟨some 68, _, _, _, _, _⟩ :: _) _ _; refine wpL_load_row (o := ⟨some 68, _, _, _, _, _⟩) rfl 49 (.tmp 10) rfl wr.heap.size 49 (opcells o) 7 rfl hb4 op_wide rfl ?_)
                  | (go_at_call 30; go_loud ((with_reducible refine (KC.out _ hX3 (Ho.out.ext hX3.ext)).mono ?_); rintro e w4 ⟨A4, c4, rfl, ⟨D4, hs4, hX4, ht4, hf4⟩, -⟩; have hXg4 := (HXg.out.ext_ hx3w).keep ht4 Hdj.out (fun r hr => hX3.base r hr); have hb4 : Blk w4 wr.heap.size 49 (opcells o) := ht4.blk hb3 hbf; have hdj4 := Hdj.out.to hf4 (HXg.out.ext_ hx3w).lt)))
                go_roundw
                case rel => exact ⟨k + 1, d1, d2, _, _, _, _, by go_num, HI1.out, HI2.out, hs1k, hs2k, hXf9.ext_ hx10, hXg9.ext_ hx10, hdj5, .inl X1.out⟩
                case measure => simp [intOf]; omega
              · have hfe : imgL df = imgL d1 := by unfold imgL; rw [x5 hk1]
                have HE := Lib.hid hfe
                obtain rfl : iL = jL := by rw [HiL.out, HjL.out, hfe]
                have z1 : (q == 1) = false := by simpa using hk1
                have z2 : (q != 1) = true := by simpa using hk1
                clear x5 x6 hfe hk1
                go_wp2_with (first
                  | (change wpList _ _ _ (⟨some 37, _, _, _, _, _⟩ :: _) _ _; refine wpL_load_op rfl (.tmp 36) rfl ob (oo + k * 7) rfl o Hc.out ?_)
                  | (change wpList _ _ _ (⟨none, .store _ (.tmp 10) _, _, _, _, _⟩ :: _) _ _; refine wpL_store_new rfl 49 (.tmp 10) (.tmp 37) rfl wr.heap.size 49 (opcells noOp) (opcells o) rfl rfl rfl rfl (opcells_one o) 7 op_wide rfl ?_)
                  | (go_at_call 33; (with_reducible refine (KE.out _ _ _ hXf5).mono ?_); rintro e w6 ⟨rfl, hx6⟩; have hXf6 := hXf5.ext_ hx6; have hXg6 := hX5.ext_ hx6; have e6 : w6.cell? ⟨wr.heap.size, 0, none⟩ = some (.int .i64 q) := hx6.cell e5)
                  | (go_at_call 33; go_loud ((with_reducible refine (KD.out _ (HXf.out.ext_ (by repeat (first | with_reducible exact Below.refl _ _ | with_reducible assumption | with_reducible refine ExtD ?_ | with_reducible refine ExtDN ?_ | with_reducible refine ExtA ?_ | (with_reducible refine ExtR ?_ ?_; (first | omega | (dsimp only; omega) | (simp; done) | (simp; omega))) | (with_reducible refine ExtS ?_ ?_; (first | omega | (dsimp only; omega) | (simp; done) | (simp; omega))) | with_reducible refine Ext.tr ?_ (by with_reducible assumption))))).mono ?_); rintro e w1 ⟨rfl, hx1⟩; have hx1w : Ext wr w1 := (ExtA (Ext.rfl' wr)).tr hx1; have hX1 := HXf.out.ext_ hx1w; have hb1 : Blk w1 wr.heap.size 49 (opcells o) := hx1.blk (BlkN rfl)))
                  | (go_at_call 34; (with_reducible refine (KS.out _ _ _ hXf6).mono ?_); rintro e w7 ⟨rfl, hx7⟩; have hXf7 := hXf6.ext_ hx7; have hXg7 := hXg6.ext_ hx7; have e7 : w7.cell? ⟨wr.heap.size, 0, none⟩ = some (.int .i64 q) := hx7.cell e6)
                  | (go_at_call 29; (with_reducible refine (KJ.out _ _ _ hXf7).mono ?_); rintro e w8 ⟨A8, c8, hv8, rfl, hm8, hx8, hown8⟩; have e8 : w8.cell? ⟨wr.heap.size, 0, none⟩ = some (.int .i64 q) := hx8.cell e7; have hXf8 := hXf7.ext_ hx8; have hXg8 := hXg7.ext_ hx8; have R8 : FlRd w8 A8 iL (imgL d1) := (by have h2 := hown8.rd; rw [hm8] at h2; exact h2); have R3 : FlRd w8 A3 iL (imgL d1) := (by have h2 := (((hown3.turn ht4 (fun r hr => by have := HXf.out.lt r hr; have := hx1w.size; omega)).turn ht5 (fun r hr => by have := HXg.out.lt r hr; have := hx1w.size; omega)).ext (hx6.tr (hx7.tr hx8))).rd; rw [hm3, HE.out] at h2; exact h2))
                  | (go_at_call 32; go_loud ((with_reducible refine (fsame_yes A8 A3 iL c8 c3 (imgL d1) w8 R8 R3 (by simp only [maxLen]; omega) HF1.out).mono ?_); rintro e w10 ⟨rfl, hx10⟩; have e10 : w10.cell? ⟨wr.heap.size, 0, none⟩ = some (.int .i64 q) := hx10.cell e8))
                  | (go_at_call 29; (with_reducible refine (KI.out _ hX1).mono ?_); rintro e w3 ⟨A3, c3, hv3, rfl, hm3, hx3, hown3⟩; have hx3w : Ext wr w3 := hx1w.tr hx3; have hX3 := hX1.ext_ hx3; have hb3 : Blk w3 wr.heap.size 49 (opcells o) := hx3.blk hb1)
                  | (change wpList _ _ _ (⟨some 61, _, _, _, _, _⟩ :: _) _ _; refine wpL_load_row (o := ⟨some 61, _, _, _, _, _⟩) rfl 49 (.tmp 10) rfl wr.heap.size 49 (opcells o) 7 rfl hb3 op_wide rfl ?_)
                  | (go_at_call 30; (with_reducible refine (KG.out _ hXg4 (Ho.out.ext hX4.ext)).mono ?_); rintro e w5 ⟨A5, c5, rfl, ⟨D5, hs5, hX5, ht5, hf5⟩, -⟩; have hXf5 := hX4.keep ht5 hdj4.symm (fun r hr => hXg4.base r hr); have hb5 : Blk w5 wr.heap.size 49 (opcells o) := ht5.blk hb4 hbg; have e5 : w5.cell? ⟨wr.heap.size, 0, none⟩ = some (.int .i64 q) := (hb5.cell 0).trans (by rw [Hq.out]; rfl); have hdj5 := (hdj4.symm.to hf5 hX4.lt).symm)
                  | (change wpList _ _ _ (⟨some 68, _, _, _, _, _⟩ :: _) _ _; refine wpL_load_row (o := ⟨some 68, _, _, _, _, _⟩) rfl 49 (.tmp 10) rfl wr.heap.size 49 (opcells o) 7 rfl hb4 op_wide rfl ?_)
                  | (go_at_call 30; go_loud ((with_reducible refine (KC.out _ hX3 (Ho.out.ext hX3.ext)).mono ?_); rintro e w4 ⟨A4, c4, rfl, ⟨D4, hs4, hX4, ht4, hf4⟩, -⟩; have hXg4 := (HXg.out.ext_ hx3w).keep ht4 Hdj.out (fun r hr => hX3.base r hr); have hb4 : Blk w4 wr.heap.size 49 (opcells o) := ht4.blk hb3 hbf; have hdj4 := Hdj.out.to hf4 (HXg.out.ext_ hx3w).lt)))
                go_roundw
                case rel => exact ⟨k + 1, d1, d2, _, _, _, _, by go_num, HI1.out, HI2.out, hs1k, hs2k, hXf8.ext_ hx10, hXg8.ext_ hx10, hdj5, .inl X1.out⟩
                case measure => simp [intOf]; omega
        · obtain ⟨q, hq⟩ : ∃ q, q = o.1.k := ⟨_, rfl⟩
          rw [← hq] at e0 hkk
          clear hok2 hq hIf hIg
          go_wp2_with (first
            | (change wpList _ _ _ (⟨some 37, _, _, _, _, _⟩ :: _) _ _; refine wpL_load_op rfl (.tmp 36) rfl ob (oo + k * 7) rfl o Hc.out ?_)
            | (change wpList _ _ _ (⟨none, .store _ (.tmp 10) _, _, _, _, _⟩ :: _) _ _; refine wpL_store_new rfl 49 (.tmp 10) (.tmp 37) rfl wr.heap.size 49 (opcells noOp) (opcells o) rfl rfl rfl rfl (opcells_one o) 7 op_wide rfl ?_))
          all_goals
            go_roundw
            case rel => exact ⟨k + 1, df, dg, Df, Dg, hsf, hsg, by go_num, HIf.out, HIg.out, by omega, by omega, HXf.out.ext_ (by repeat (first | with_reducible exact Below.refl _ _ | with_reducible assumption | with_reducible refine ExtD ?_ | with_reducible refine ExtDN ?_ | with_reducible refine ExtA ?_ | (with_reducible refine ExtR ?_ ?_; (first | omega | (dsimp only; omega) | (simp; done) | (simp; omega))) | (with_reducible refine ExtS ?_ ?_; (first | omega | (dsimp only; omega) | (simp; done) | (simp; omega))) | with_reducible refine Ext.tr ?_ (by with_reducible assumption))), HXg.out.ext_ (by repeat (first | with_reducible exact Below.refl _ _ | with_reducible assumption | with_reducible refine ExtD ?_ | with_reducible refine ExtDN ?_ | with_reducible refine ExtA ?_ | (with_reducible refine ExtR ?_ ?_; (first | omega | (dsimp only; omega) | (simp; done) | (simp; omega))) | (with_reducible refine ExtS ?_ ?_; (first | omega | (dsimp only; omega) | (simp; done) | (simp; omega))) | with_reducible refine Ext.tr ?_ (by with_reducible assumption))), Hdj.out, Hrel.out⟩
            case measure => simp [intOf]; omega
      · have d3 : decide (k < ops.length) = false := by simpa using hlt
        have hx := hXf.ext
        clear hXf hXg hdj hrel hIf hIg
        go_wp2_with fail
        go_ret
        exact ⟨rfl, hx⟩
end Go.Proofs.Ytomnllkliifeoaa
