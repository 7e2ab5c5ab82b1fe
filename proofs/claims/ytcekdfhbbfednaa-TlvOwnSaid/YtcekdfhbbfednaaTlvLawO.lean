/-
  The walk of the law TlvOwn.
-/
import Derived.Test.YtcekdfhbbfednaaTlvLawC
import Derived.Test.YtcekdfhbbfednaaOwnY
namespace Go.Proofs.Ytcekdfhbbfednaa
open Go.RowKit
set_option linter.unusedVariables false
set_option linter.unusedSimpArgs false
theorem OwnFs.lowO {w w' : World} {base n c : Nat} {A : Option Addr} {hs : List Held} {F : List Nat} (h : OwnFs w base A n c hs) (ht : Turn F w w') (hF : ∀ r ∈ F, r < base) : OwnFs w' base A n c hs :=
  h.turn ht (fun r hr hc => by have := (h.1.lt r (own_blkOf hr)).1; have := hF r hc; omega) (fun f hf r hr hc => by have := ((h.2 f hf).lt r (own_blkOf hr)).1; have := hF r hc; omega)
theorem small_of : ∀ (fs : List Fld) (last : Int), faults last fs = 0 → ∀ f ∈ fs, f.text = true → f.bytes.length ≤ 200
  | [], _, _ => fun _ h => (by cases h)
  | f :: r, last, h => by
    have hf : fault f last = 0 := by
      by_cases h0 : fault f last = 0
      · exact h0
      · unfold faults at h; rw [if_pos h0] at h; exact h
    have hr : faults f.tag r = 0 := by unfold faults at h; rw [if_neg (by simp [hf])] at h; exact h
    intro x hx ht
    rcases List.mem_cons.1 hx with rfl | hx
    · exact ((fault_ok hf).2.2.2.1 ht).2
    · exact small_of r f.tag hr x hx ht
set_option maxRecDepth 100000 in
set_option maxHeartbeats 16000000 in
theorem tlvOwn_walk (A : Option Addr) (n c : Nat) (l : List UInt8) (A2 : Option Addr) (n2 c2 : Nat) (fs : List Fld) (w : World) (hr : Rd w A n (u8s l)) (hnc : n ≤ c) (hn : n ≤ 140737488351232) (hf : FsRd w A2 n2 fs) (hfw : FWf fs) (hn2 : n2 * 48 ≤ 140737488351232) (hfb : ∀ f ∈ fs, f.bytes.length ≤ 140737488351232) :
    Calls Try.prog 9 #[.slice A n c, .slice A2 n2 c2] w fun e w' => e = .returned (.bool true) ∧ Ext w w' := by
  obtain rfl : n = l.length := by have := hr.1; rw [u8s_len] at this; exact this.symm
  have KH := Lib.hid fun W => head_any W
  have KC := Lib.hid fun W (hx : Ext w W) => copy_any A l.length c l W (hr.ext hx) (by omega)
  have KD := Lib.hid fun W (hx : Ext w W) => rdec_any A l.length c l W (hr.ext hx) hnc (by simp only [maxLen]; omega)
  have KX := Lib.hid fun (W : World) base A1 c1 (ho : W.ownsRow base 5 1 (.slice A1 l.length c1) l.length (u8s l)) => tdec_apart A1 l.length c1 l W (rd_own ho) (own_max ho).1 (own_max ho).2
  have hl31 : (dec l).1.length ≤ 31 ∧ ∀ f ∈ (dec l).1, f.bytes.length ≤ 200 := by
    by_cases he : (dec l).2.2 = 0
    · obtain ⟨_, _, h3, h4, _, _, h7, _⟩ := dec_inv he
      have := faults_bound _ h3 h7
      refine ⟨by omega, fun f hf => ?_⟩
      by_cases ht : f.text = true
      · exact small_of _ 0 h7 f hf ht
      · rw [(h4 f hf).2 (by simpa using ht)]; simp
    · have : (dec l).1 = [] := by
        rw [dec_eq] at he ⊢
        split
        · rfl
        · rename_i h1; rw [if_neg h1] at he; exact (decA_form l 0 0).1 he
      rw [this]; exact ⟨by decide, fun f hf => by cases hf⟩
  unfold NewB at KC
  unfold DecPost at KD
  unfold DecPostA at KX
  generalize (dec l).2.2 = E at *
  generalize (dec l).1 = F at *
  generalize (dec l).2.1 = at_ at *
  have Hf := Lib.hid hf
  have Hfw := Lib.hid hfw
  have Hfb := Lib.hid hfb
  have Hn2 := Lib.hid hn2
  have Hl31 := Lib.hid hl31
  clear hr hnc hf hfw hn2 hfb hl31
  go_enter Try.func9, Try.ntmps9
  go_wp2_with (first
    | (go_at_call 16; (with_reducible refine (KH.out _).mono ?_); rintro e w1 ⟨rfl, hx1⟩)
    | (go_at_call 20; (with_reducible refine (KD.out _ hx1).mono ?_); rintro e w2 ⟨A5, c5, hs5, rfl, hx2, ho5, hm5⟩; have O5 := Lib.hid ho5; have M5 := Lib.hid hm5; clear ho5 hm5)
    | (go_at_call 19; (with_reducible refine (KC.out _ (hx1.tr hx2)).mono ?_); rintro e w3 ⟨A8, c8, rfl, hx3, ho8⟩; have O8 := Lib.hid ho8; clear ho8)
    | (go_at_call 21; (with_reducible refine (KX.out w3 _ _ _ O8.out).mono ?_); rintro e w4 ⟨A9, c9, hsx, rfl, hx4, ho9, hm9, ha9⟩; have O9 := Lib.hid ho9; have M9 := Lib.hid hm9; have Ap9 := Lib.hid ha9; have O84 := Lib.hid (own_ext hx4 O8.out); clear ho9 hm9 ha9)
    | (go_at_call 21; (with_reducible refine (KX.out w4 _ _ _ O84.out).mono ?_); rintro e w5 ⟨A12, c12, hsy, rfl, hx5, ho12, hm12, _⟩; have O12 := Lib.hid ho12; have M12 := Lib.hid hm12; clear ho12 hm12))
  have hA8 : Hid (∀ r ∈ blkOf A8, w2.heap.size ≤ r ∧ r < w3.heap.size) := Lib.hid fun r hr => O8.out.lt r (own_blkOf hr)
  have B5 := Lib.hid (bi_of (own_ext hx5 O84.out))
  have hw12 : w.heap.size ≤ w2.heap.size := Nat.le_trans hx1.size hx2.size
  have hw34 : w3.heap.size ≤ w4.heap.size := hx4.size
  have hl62 : l.length ≤ 140737488355328 := by omega
  go_loopw [53] (fun d wy => XorR w5 w2.heap.size A8 l.length c8 d wy) (fun d _ => l.length - (intOf d).toNat)
  case atStart => exact ⟨0, rfl, by omega, Turn.refl _ _, B5.out⟩
  case round =>
    obtain ⟨j, rfl, hj, hty, hby⟩ := hrel
    by_cases hjl : j < l.length
    · obtain ⟨bk, q, rfl, _, hcj, hfj, hset⟩ := hby.at hjl
      have Hset := Lib.hid hset
      clear hset
      go_wp2_with fail
      refine And.intro ⟨j + 1, by go_num, by omega, hty.tr (Turn.cell (by simp [blkOf])), Hset.out _⟩ ?_
      simp [intOf]; omega
    · obtain rfl : j = l.length := by omega
      rename World => wa
      have X9 := Lib.hid ((O9.out.ext' hx5).lowO hty (fun r hr => (hA8.out r hr).2))
      have X12 := Lib.hid (O12.out.lowO hty (fun r hr => Nat.lt_of_lt_of_le (hA8.out r hr).2 hw34))
      have X5 := Lib.hid (O5.out.turnNew (O5.out.ext' (hx3.tr (hx4.tr hx5))) hty (fun r hr => (hA8.out r hr).1))
      have HXa := Lib.hid (hty.ext (hx1.tr (hx2.tr (hx3.tr (hx4.tr hx5)))) (fun r hr => Nat.le_trans hw12 (hA8.out r hr).1))
      have hw4a : w4.heap.size ≤ wa.heap.size := Nat.le_trans hx5.size hty.size
      have hlx : hsx.length = F.length := by rw [← M9.out]; simp
      have hFb : Hid (∀ f ∈ F, f.bytes.length ≤ maxLen) := Lib.hid fun f hf => by
        rw [← M9.out] at hf
        obtain ⟨x, hx, rfl⟩ := List.mem_map.1 hf
        exact (own_max (O9.out.2 x hx)).2
      have hFn : F.length ≤ maxLen := by have := Hl31.out.1; simp only [maxLen]; omega
      have KA1 := Lib.hid fun W (hx : Ext wa W) => alike_yes A9 A5 F.length c9 F.length c5 F F W (by have := (X9.out.ext' hx).rd; rwa [M9.out] at this) (by have := (X5.out.ext' hx).rd; rwa [M5.out] at this) hFn rfl hFb.out
      have KA2 := Lib.hid fun W (hx : Ext wa W) => alike_yes A12 A5 F.length c12 F.length c5 F F W (by have := (X12.out.ext' hx).rd; rwa [M12.out] at this) (by have := (X5.out.ext' hx).rd; rwa [M5.out] at this) hFn rfl hFb.out
      have HFn := Lib.hid hFn
      have hw23 : w2.heap.size ≤ w3.heap.size := hx3.size
      have N5 := Lib.hid O5.out.new
      have In9 := Lib.hid fun z => inb_of (z := z) O9.out (Nat.le_refl _)
      clear O5 O8 O9 O84 O12 B5 hty hby hA8 hj hjl hFn
      go_wp2_with (first
        | (go_at_call 18; (with_reducible refine (KA1.out _ (by repeat (first | with_reducible exact Below.refl _ _ | with_reducible assumption | with_reducible refine ExtD ?_ | with_reducible refine ExtDN ?_ | with_reducible refine ExtA ?_ | (with_reducible refine ExtR ?_ ?_; (first | omega | (dsimp only; omega) | (simp; done) | (simp; omega))) | (with_reducible refine ExtS ?_ ?_; (first | omega | (dsimp only; omega) | (simp; done) | (simp; omega))) | with_reducible refine Ext.tr ?_ (by with_reducible assumption)))).mono ?_); rintro e w6 ⟨rfl, hx6⟩)
        | (go_at_call 18; (with_reducible refine (KA2.out _ (by repeat (first | with_reducible exact Below.refl _ _ | with_reducible assumption | with_reducible refine ExtD ?_ | with_reducible refine ExtDN ?_ | with_reducible refine ExtA ?_ | (with_reducible refine ExtR ?_ ?_; (first | omega | (dsimp only; omega) | (simp; done) | (simp; omega))) | (with_reducible refine ExtS ?_ ?_; (first | omega | (dsimp only; omega) | (simp; done) | (simp; omega))) | with_reducible refine Ext.tr ?_ (by with_reducible assumption)))).mono ?_); rintro e w7 ⟨rfl, hx7⟩))
      have XX := Lib.hid (show XR w3.heap.size w4.heap.size w7 A9 c9 F (stA 0 0) w7 from ⟨hsx, X9.out.ext' (hx6.tr hx7), Ap9.out, In9.out _, Turn.refl _ _, stands_start M9.out⟩)
      have HX7 := Lib.hid (HXa.out.tr (hx6.tr hx7))
      have Y12 := Lib.hid (X12.out.ext' (hx6.tr hx7))
      have Y5 := Lib.hid (X5.out.ext' (hx6.tr hx7))
      have hl31 := Hl31.out.1
      have hw37 : w3.heap.size ≤ w7.heap.size := Nat.le_trans (Nat.le_trans hw34 hw4a) (hx6.tr hx7).size
      clear X9 X12 X5 HXa KA1 KA2 hx6 hx7 hx1 hx2 hx3 hx4 hx5 Ap9 M9
      go_loopw [72] (fun d wr => ∃ i : Nat, d = .int .i64 (i : Nat) ∧ i ≤ F.length ∧ XR w3.heap.size w4.heap.size w7 A9 c9 F (stA i 0) wr) (fun d _ => F.length - (intOf d).toNat)
      case atStart => exact ⟨0, rfl, by omega, XX.out⟩
      case round =>
        clear XX
        obtain ⟨i, rfl, hi, hX⟩ := hrel
        by_cases hil : i < F.length
        · obtain ⟨hs, ho, hap, hin, ht, hst⟩ := id hX
          obtain ⟨f, hf⟩ : ∃ f, F[i]? = some f := ⟨_, List.getElem?_eq_getElem hil⟩
          obtain ⟨A1, c1, hg⟩ := stA_at hst hf
          rw [part_zero] at hg
          obtain ⟨g, rfl, _, hcl⟩ := own_row_at ho.1 (by omega)
          have e3 : wr.cell? ⟨g, i * 4 + 3, none⟩ = some (.slice A1 f.bytes.length c1) := (hcl (i * 4 + 3) _ (by rw [fsCells_at hs i 3 _ hg (by omega)]; rfl)).1
          have HX := Lib.hid hX
          have Hf := Lib.hid hf
          clear hX ho hap hin ht hst hg hcl
          have hfl : f.bytes.length ≤ 200 := Hl31.out.2 f (List.mem_of_getElem? Hf.out)
          go_wp2_with fail
          go_loopw [81] (fun d wy => ∃ j : Nat, d = .int .i64 (j : Nat) ∧ j ≤ f.bytes.length ∧ XR w3.heap.size w4.heap.size w7 (some ⟨g, 0, none⟩) c9 F (stA i j) wy) (fun d _ => f.bytes.length - (intOf d).toNat)
          case atStart => exact ⟨0, rfl, by omega, HX.out⟩
          case round =>
            clear e3
            rename World => wy
            obtain ⟨j, rfl, hj, hX⟩ := hrel
            by_cases hjl : j < f.bytes.length
            · obtain ⟨hs, ho, hap, hin, ht, hst⟩ := hX
              obtain ⟨A1, c1, hg⟩ := stA_at hst Hf.out
              have hpl := part_len i j f (by omega)
              obtain ⟨b, rfl, _, hcb⟩ := own_row_at (ho.2 _ (List.mem_of_getElem? hg)) (by dsimp only; omega)
              obtain ⟨g2, hg2, _, hcl⟩ := own_row_at ho.1 (by omega)
              obtain rfl : g = g2 := by injection hg2 with h; injection h
              have e3 : wy.cell? ⟨g, i * 4 + 3, none⟩ = some (.slice (some ⟨b, 0, none⟩) f.bytes.length c1) := (hcl (i * 4 + 3) _ (by rw [fsCells_at hs i 3 _ hg (by omega)]; show some (Value.slice _ (partF i j f).bytes.length _) = _; rw [hpl])).1
              obtain ⟨q, hq⟩ : ∃ q, (u8s (partF i j f).bytes)[j]? = some q := ⟨_, List.getElem?_eq_getElem (by rw [u8s_len]; omega)⟩
              obtain ⟨u0, u1⟩ := hcb j q hq
              have hby := XR.byte ho hap hin ht hst Hf.out hg hjl
              rw [← b8_val (by omega)] at hby
              have HB := Lib.hid hby
              clear hby ho hap hin ht hst hg hcb hcl hg2 hpl hq
              go_wp2_with fail
              refine And.intro ⟨j + 1, by go_num, by omega, HB.out⟩ ?_
              simp [intOf]; omega
            · obtain rfl : j = f.bytes.length := by omega
              obtain ⟨hs, ho, hap, hin, ht, hst⟩ := hX
              have HB := Lib.hid (show XR w3.heap.size w4.heap.size w7 (some ⟨g, 0, none⟩) c9 F (stA (i + 1) 0) wy from ⟨hs, ho, hap, hin, ht, stA_next Hf.out hst⟩)
              clear ho hap hin ht hst
              go_wp2_with fail
              refine And.intro ⟨i + 1, by go_num, by omega, HB.out⟩ ?_
              simp [intOf]; omega
        · obtain rfl : i = F.length := by omega
          have XB := Lib.hid (show XR w3.heap.size w4.heap.size w7 A9 c9 F (stB 0 0) wr from by
            obtain ⟨hs, ho, hap, hin, ht, hst⟩ := hX
            exact ⟨hs, ho, hap, hin, ht, stA_end hst⟩)
          clear hX hi hil
          have HV := Lib.hid fun (W : World) => rd_byte W 221 221 rfl
          go_wp2_with fail
          go_loopw [98] (fun d wr => ∃ i : Nat, d = .int .i64 (i : Nat) ∧ i ≤ F.length ∧ XR w3.heap.size w4.heap.size w7 A9 c9 F (stB i 0) wr) (fun d _ => F.length - (intOf d).toNat)
          case atStart => exact ⟨0, rfl, by omega, XB.out⟩
          case round =>
            clear XB
            rename World => wq
            obtain ⟨i, rfl, hi, hX⟩ := hrel
            by_cases hil : i < F.length
            · obtain ⟨f, hf⟩ : ∃ f, F[i]? = some f := ⟨_, List.getElem?_eq_getElem hil⟩
              have hfl : f.bytes.length ≤ 200 := Hl31.out.2 f (List.mem_of_getElem? hf)
              have HX := Lib.hid hX
              have Hf := Lib.hid hf
              clear hX hf
              go_wp2_with fail
              go_loopw [19] (fun d wy => ∃ j : Nat, d = .int .i64 (j : Nat) ∧ j ≤ 9 ∧ XR w3.heap.size w4.heap.size w7 A9 c9 F (stB i j) wy) (fun d _ => 9 - (intOf d).toNat)
              case atStart => exact ⟨0, rfl, by omega, HX.out⟩
              case round =>
                rename World => wy
                obtain ⟨j, rfl, hj, hX⟩ := hrel
                by_cases hjl : j < 9
                · obtain ⟨hs, ho, hap, hin, ht, hst⟩ := hX
                  obtain ⟨A1, c1, hg⟩ := stB_at hst Hf.out
                  obtain ⟨g, rfl, _, hcl⟩ := own_row_at ho.1 (by omega)
                  obtain ⟨e3, _⟩ := row3 ho.1 hg
                  dsimp only at e3
                  have ob := ho.2 _ (List.mem_of_getElem? hg)
                  have hgA : g ∉ blkOf A1 := fun hc => own_apart8 ob ho.1 g hc (by simp [blkOf])
                  have Ho := Lib.hid ho
                  have Hap := Lib.hid hap
                  have Hin := Lib.hid hin
                  have Ht := Lib.hid ht
                  have Hst := Lib.hid hst
                  have Hg := Lib.hid hg
                  have Ob := Lib.hid ob
                  have hlz : w3.heap.size ≤ wy.heap.size := by have := ht.size; omega
                  clear ho hap hin ht hst hg hcl ob
                  go_wp2_with (change wpList _ _ _ (⟨some 113, _, _, _, _, _⟩ :: _) _ _; refine wpBd_append (v := 221) rfl (.tmp 111) (.tmp 112) rfl w3.heap.size (Nat.le_trans hlz (by simp)) rfl (Ob.out.alloc _) rfl (HV.out _) (by rw [app_len, fill_len]; omega) ?_; intro A13 c13 w13 ho13 ht13 hn13; have zz := row3 (ht13.own (Ho.out.1.alloc _) (fun r hr hc => hgA (by simp [Value.ownBlock] at hr; rw [hr]; exact hc))) Hg.out; have z0 := zz.1; have z1 := zz.2; have O13 := Lib.hid ho13; clear ho13 zz)
                  have hgr := XR.grow Ho.out Hap.out Hin.out Ht.out Hst.out Hf.out Hg.out (((ExtA (Ext.rfl' wy)).turn _).tr ht13) O13.out (fun r hr => (hn13 r hr).imp id fun h => Nat.le_trans (by simp) h)
                  have e9 : ((appF j (fillF i f)).bytes ++ [221]).length = (appF j (fillF i f)).bytes.length + 1 := by simp
                  rw [e9] at hgr
                  refine And.intro ⟨j + 1, by go_num, by omega, hgr⟩ ?_
                  simp [intOf]; omega
                · obtain rfl : j = 9 := by omega
                  obtain ⟨hs, ho, hap, hin, ht, hst⟩ := hX
                  have HB := Lib.hid (show XR w3.heap.size w4.heap.size w7 A9 c9 F (stB (i + 1) 0) wy from ⟨hs, ho, hap, hin, ht, stB_next hst⟩)
                  clear ho hap hin ht hst
                  go_wp2_with fail
                  refine And.intro ⟨i + 1, by go_num, by omega, HB.out⟩ ?_
                  simp [intOf]; omega
            · obtain rfl : i = F.length := by omega
              obtain ⟨hs, ho, hap, hin, ht, hst⟩ := hX
              have HO := Lib.hid ho
              have HT := Lib.hid ht
              have Hst := Lib.hid hst
              clear ho hap hin ht hst hi hil
              go_wp2_with fail
              go_loopw [119] (fun d wr => ∃ i : Nat, d = .int .i64 (i : Nat) ∧ i ≤ F.length ∧ Ext wq wr) (fun d _ => F.length - (intOf d).toNat)
              case atStart => exact ⟨0, rfl, by omega, Ext.rfl' _⟩
              case round =>
                rename World => wz
                obtain ⟨i, rfl, hi, hxz⟩ := hrel
                have hlo : ∀ r ∈ rng w3.heap.size w4.heap.size, w2.heap.size ≤ r ∧ r < w4.heap.size := fun r hr => by have := mem_rng.1 hr; omega
                have HO5 := Lib.hid (Y5.out.turn HT.out (fun r hr hc => by have := N5.out.1 r hr; have := (hlo r hc).1; omega) (fun x hx r hr hc => by have := N5.out.2 x hx r hr; have := (hlo r hc).1; omega))
                have HO12 := Lib.hid (Y12.out.lowO HT.out (fun r hr => (hlo r hr).2))
                clear hlo
                by_cases hil : i < F.length
                · obtain ⟨f, hf⟩ : ∃ f, F[i]? = some f := ⟨_, List.getElem?_eq_getElem hil⟩
                  have hfl : f.bytes.length ≤ 200 := Hl31.out.2 f (List.mem_of_getElem? hf)
                  obtain ⟨A1, c1, hg⟩ := stB_end Hst.out hf
                  obtain ⟨y, hy, hyf⟩ : ∃ y, hs5[i]? = some y ∧ y.1 = f := by
                    have := M5.out
                    rw [← this, List.getElem?_map] at hf
                    cases hq : hs5[i]? with
                    | none => rw [hq] at hf; simp at hf
                    | some y => rw [hq] at hf; simp at hf; exact ⟨y, rfl, hf⟩
                  obtain ⟨f2, A6, c6⟩ := y
                  dsimp only at hyf
                  subst hyf
                  have hOz := HO.out.ext' hxz
                  have hO5 := HO5.out.ext' hxz
                  obtain ⟨g, rfl, _, hcl⟩ := own_row_at hOz.1 (by omega)
                  obtain ⟨g5, rfl, _, hc5⟩ := own_row_at hO5.1 (by omega)
                  have hal : (appF 9 (fillF i f2)).bytes.length = f2.bytes.length + 9 := by rw [app_len, fill_len]
                  have e1 : wz.cell? ⟨g, i * 4 + 1, none⟩ = some (.bool f2.text) := (hcl (i * 4 + 1) _ (by rw [fsCells_at hs i 1 _ hg (by omega)]; rfl)).1
                  have e3 : wz.cell? ⟨g, i * 4 + 3, none⟩ = some (.slice A1 (f2.bytes.length + 9) c1) := (hcl (i * 4 + 3) _ (by rw [fsCells_at hs i 3 _ hg (by omega), ← hal]; rfl)).1
                  have d3 : wz.cell? ⟨g5, i * 4 + 3, none⟩ = some (.slice A6 f2.bytes.length c6) := (hc5 (i * 4 + 3) _ (by rw [fsCells_at hs5 i 3 _ hy (by omega)]; rfl)).1
                  obtain ⟨b, rfl, _, hcb⟩ := own_row_at (hOz.2 _ (List.mem_of_getElem? hg)) (by dsimp only; omega)
                  have hbv : ∀ j, j < f2.bytes.length → wz.cell? ⟨b, j, none⟩ = some (.int .u8 ((i : Int) + 1)) := fun j hj => by
                    refine (hcb j _ ?_).1
                    rw [b8_val (by omega)]
                    show (u8s ((fillF i f2).bytes ++ List.replicate 9 221))[j]? = _
                    rw [fill_bytes]
                    simp [u8s, List.getElem?_append_left, hj]
                  have Hbv := Lib.hid hbv
                  clear hf hg hy hOz hO5 hcl hc5 hcb hbv hal HO5 HO12
                  go_wp2_with fail
                  go_loopw [21] (fun d wy => ∃ j : Nat, d = .int .i64 (j : Nat) ∧ j ≤ f2.bytes.length ∧ Ext wz wy) (fun d _ => f2.bytes.length - (intOf d).toNat)
                  case atStart => exact ⟨0, rfl, by omega, Ext.rfl' _⟩
                  case round =>
                    rename World => wy
                    obtain ⟨j, rfl, hj, hxy⟩ := hrel
                    have e1 := hxy.cell e1
                    have e3 := hxy.cell e3
                    have d3 := hxy.cell d3
                    cases htx : f2.text with
                    | false =>
                      rw [htx] at e1
                      go_wp2_with fail
                      refine And.intro ⟨i + 1, by go_num, by omega, hxz.tr hxy⟩ ?_
                      simp [intOf]; omega
                    | true =>
                      rw [htx] at e1
                      by_cases hjl : j < f2.bytes.length
                      · have v1 := hxy.cell (Hbv.out j hjl)
                        go_wp2_with fail
                        refine And.intro ⟨j + 1, by go_num, by omega, (by repeat (first | with_reducible exact Below.refl _ _ | with_reducible assumption | with_reducible refine ExtD ?_ | with_reducible refine ExtDN ?_ | with_reducible refine ExtA ?_ | (with_reducible refine ExtR ?_ ?_; (first | omega | (dsimp only; omega) | (simp; done) | (simp; omega))) | (with_reducible refine ExtS ?_ ?_; (first | omega | (dsimp only; omega) | (simp; done) | (simp; omega))) | with_reducible refine Ext.tr ?_ (by with_reducible assumption)))⟩ ?_
                        simp [intOf]; omega
                      · obtain rfl : j = f2.bytes.length := by omega
                        go_wp2_with fail
                        refine And.intro ⟨i + 1, by go_num, by omega, hxz.tr hxy⟩ ?_
                        simp [intOf]; omega
                · obtain rfl : i = F.length := by omega
                  have hlow : ∀ r ∈ rng w3.heap.size w4.heap.size, w.heap.size ≤ r := fun r hr => by have := (mem_rng.1 hr).1; omega
                  have HXq := Lib.hid ((HT.out.ext HX7.out hlow).tr hxz)
                  have KA := Lib.hid fun W (hx : Ext wz W) => alike_yes A12 A5 F.length c12 F.length c5 F F W (by have := (HO12.out.ext' (hxz.tr hx)).rd; rwa [M12.out] at this) (by have := (HO5.out.ext' (hxz.tr hx)).rd; rwa [M5.out] at this) HFn.out rfl hFb.out
                  have KRe := Lib.hid fun W (hx : Ext wz W) => renc_any A2 n2 c2 fs W (Hf.out.ext (HXq.out.tr hx)) Hfw.out (by have := Hn2.out; simp only [maxLen]; omega)
                  have KCp := Lib.hid fun W (hx : Ext wz W) => fcopy_any A2 n2 c2 fs W (Hf.out.ext (HXq.out.tr hx)) (by have := Hn2.out; omega) (fun f hf => by have := Hfb.out f hf; omega)
                  have hfn : fs.length ≤ maxLen := by have := Hf.out.len; have := Hn2.out; simp only [maxLen]; omega
                  have KEn := Lib.hid fun W A' c' (h : FsRd W A' fs.length fs) => tenc_any A' fs.length c' fs W h Hfw.out hfn
                  have hRm := encR_max fs
                  unfold FCopPost at KCp
                  unfold EncPost at KRe KEn
                  generalize encE fs = Ev at *
                  generalize encR fs = Rv at *
                  clear hlow hfn
                  go_wp2_with (first
                    | (go_at_call 18; (with_reducible refine (KA.out _ (by repeat (first | with_reducible exact Below.refl _ _ | with_reducible assumption | with_reducible refine ExtD ?_ | with_reducible refine ExtDN ?_ | with_reducible refine ExtA ?_ | (with_reducible refine ExtR ?_ ?_; (first | omega | (dsimp only; omega) | (simp; done) | (simp; omega))) | (with_reducible refine ExtS ?_ ?_; (first | omega | (dsimp only; omega) | (simp; done) | (simp; omega))) | with_reducible refine Ext.tr ?_ (by with_reducible assumption)))).mono ?_); rintro e w8 ⟨rfl, hx8⟩)
                    | (go_at_call 13; (with_reducible refine (KRe.out _ hx8).mono ?_); rintro e w9 ⟨A20, c20, rfl, hx9, ho20⟩; have O20 := Lib.hid ho20; have Y9 : Ext wz w9 := hx8.tr hx9; clear ho20)
                    | (go_at_call 14; (with_reducible refine (KCp.out w9 Y9).mono ?_); rintro e w10 ⟨A21, c21, hs21, rfl, hm21, hx10, ho21⟩; have R21 := Lib.hid (show FsRd w10 A21 fs.length fs from by have := ho21.rd; rwa [hm21] at this); have Y10 : Ext wz w10 := Y9.tr hx10; clear ho21 hm21)
                    | (go_at_call 17; (with_reducible refine (KEn.out w10 _ _ R21.out).mono ?_); rintro e w11 ⟨A22, c22, rfl, hx11, ho22⟩; have O22 := Lib.hid ho22; have Y11 : Ext wz w11 := Y10.tr hx11; clear ho22)
                    | (go_at_call 14; (with_reducible refine (KCp.out w11 Y11).mono ?_); rintro e w12 ⟨A23, c23, hs23, rfl, hm23, hx12, ho23⟩; have R23 := Lib.hid (show FsRd w12 A23 fs.length fs from by have := ho23.rd; rwa [hm23] at this); have Y12' : Ext wz w12 := Y11.tr hx12; clear ho23 hm23)
                    | (go_at_call 17; (with_reducible refine (KEn.out w12 _ _ R23.out).mono ?_); rintro e w13 ⟨A24, c24, rfl, hx13, ho24⟩; have O24 := Lib.hid ho24; have Y13 : Ext wz w13 := Y12'.tr hx13; clear ho24))
                  have B13 := Lib.hid (bi_of (own_ext (hx12.tr hx13) O22.out))
                  have hlt22 : Hid (∀ r ∈ blkOf A22, w10.heap.size ≤ r ∧ r < w11.heap.size) := Lib.hid fun r hr => O22.out.lt r (own_blkOf hr)
                  have hRl : Rv.length ≤ 1024 := hRm
                  go_loopw [175] (fun d wy => XorR w13 w10.heap.size A22 Rv.length c22 d wy) (fun d _ => Rv.length - (intOf d).toNat)
                  case atStart => exact ⟨0, rfl, by omega, Turn.refl _ _, B13.out⟩
                  case round =>
                    rename World => wy
                    obtain ⟨j, rfl, hj, hty, hby⟩ := hrel
                    by_cases hjl : j < Rv.length
                    · obtain ⟨bk, q, rfl, _, hcj, hfj, hset⟩ := hby.at hjl
                      have Hset := Lib.hid hset
                      clear hset
                      go_wp2_with fail
                      refine And.intro ⟨j + 1, by go_num, by omega, hty.tr (Turn.cell (by simp [blkOf])), Hset.out _⟩ ?_
                      simp [intOf]; omega
                    · obtain rfl : j = Rv.length := by omega
                      have hzz : w11.heap.size ≤ w12.heap.size := hx12.size
                      have hz9 : w9.heap.size ≤ w10.heap.size := hx10.size
                      have K24 := Lib.hid (hty.own O24.out (fun r hr hc => by have := (O24.out.lt r hr).1; have := (hlt22.out r hc).2; omega))
                      have K20 := Lib.hid (hty.own (own_ext (hx10.tr (hx11.tr (hx12.tr hx13))) O20.out) (fun r hr hc => by have := (O20.out.lt r hr).2; have := (hlt22.out r hc).1; omega))
                      have KS := Lib.hid fun W (hx : Ext wy W) => same_yes A24 A20 Rv.length c24 Rv.length c20 Rv W (rd_own (own_ext hx K24.out)) (rd_own (own_ext hx K20.out)) (by simp only [maxLen]; omega)
                      have HE := Lib.hid (hty.ext (HXq.out.tr Y13) (fun r hr => Nat.le_trans (Nat.le_trans HXq.out.size Y10.size) (hlt22.out r hr).1))
                      clear hty hby hj hjl
                      go_wp2_with (go_at_call 15; (with_reducible refine (KS.out _ (Ext.rfl' _)).mono ?_); rintro e w14 ⟨rfl, hx14⟩)
                      go_ret
                      exact ⟨rfl, HE.out.tr hx14⟩
end Go.Proofs.Ytcekdfhbbfednaa
