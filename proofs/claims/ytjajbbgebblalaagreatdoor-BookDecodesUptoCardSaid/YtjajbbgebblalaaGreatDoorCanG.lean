/-
  exploring
-/
/-
  The walk of CanonDecodes: every reading, against the reference; nothing is shared.
-/
import Derived.Test.YtjajbbgebblalaaGreatDoorShrT
import Derived.Test.YtjajbbgebblalaaGreatDoorCanV
import Derived.Test.YtjajbbgebblalaaGreatDoorCanE
namespace Go.Proofs.YtjajbbgebblalaaGreatDoor
open Go.RowKit
set_option linter.unusedVariables false
set_option linter.unusedSimpArgs false
theorem st12_one_ (s : St) (A : Option Addr) (c : Nat) : ∀ v ∈ (stcells s A c).toList, v.oneCell' = true := s12_one _ _ _ _ _ _ _ _ _ _ _ _ _ _
def numsV (P : List Fld) : List Int := (List.range 11).map fun (t : Nat) => numI P (t : Int)
theorem numsV_len (P : List Fld) : (numsV P).length = 11 := by simp [numsV]
theorem numsV_get (P : List Fld) {t : Nat} (h : t < 11) : (vrow (numsV P))[t]? = some (.int .i64 (numI P (t : Int))) := by
  rw [vrow_get (by rw [numsV_len]; exact h)]
  simp [numsV, List.getD, h]
theorem numsV_set {P : List Fld} {f : Fld} {T : Nat} (h : ∀ g ∈ P, g.tag < f.tag) (ht : f.tag = (T : Int)) (hx : f.text = false) (hT : T < 11) : (numsV P).set T ((clampN f.num : Nat) : Int) = numsV (P ++ [f]) := by
  apply List.ext_getElem
  · simp [numsV]
  · intro i h1 h2
    rw [List.getElem_set]
    simp only [numsV, List.getElem_map, List.getElem_range]
    unfold numI
    rw [numAt_snoc h, ht, hx]
    by_cases hi : T = i
    · subst hi; simp
    · rw [if_neg hi, if_neg (by omega)]
theorem numsV_same {P : List Fld} {f : Fld} (h : ∀ g ∈ P, g.tag < f.tag) (ht : 10 < f.tag) : numsV (P ++ [f]) = numsV P := by
  unfold numsV
  refine List.map_congr_left fun i hi => ?_
  unfold numI
  rw [numAt_snoc h, if_neg (by have := List.mem_range.1 hi; omega)]
def cgSt (P : List Fld) : St := ⟨0, 0, 0, 0, 0, (runOf P).map fun b => (unl b).1, 0, 0, 0, 0, 0, ⟨(textAt P 11).toArray⟩⟩
theorem cg_same {P : List Fld} {f : Fld} (h : ∀ g ∈ P, g.tag < f.tag) (ht : f.tag ≠ 11) (hr : runOf (P ++ [f]) = runOf P) : cgSt (P ++ [f]) = cgSt P := by
  unfold cgSt
  rw [hr, textAt_snoc h, if_neg ht]
theorem fld_ok {fs : List Fld} {last : Int} (h : faults last fs = 0) : ∀ f ∈ fs, f.text = true → f.bytes ≠ [] ∧ f.bytes.length ≤ 200 := by
  induction fs generalizing last with
  | nil => intro f hf; cases hf
  | cons g r ih =>
    simp only [faults] at h
    split at h
    · omega
    · rename_i h0
      intro f hf ht
      rcases List.mem_cons.1 hf with rfl | hf
      · have := (fault_ok (by omega : fault f last = 0)).2.2.2.1 ht
        exact ⟨(fun hc => by rw [hc] at this; simp at this), this.2⟩
      · exact ih h f hf ht
theorem of_at {w : World} {base n c k : Nat} {A : Option Addr} {hs : List Held} (h : OwnFs w base A n c hs) (hk : k < n) :
    ∃ b o f Ae ce, (hs.map (·.1))[k]? = some f ∧ A = some ⟨b, o, none⟩ ∧ w.rangeAt b (o + k * 4) (fcells f Ae ce).toList ∧ w.ownsRow base 5 1 (.slice Ae f.bytes.length ce) f.bytes.length (u8s f.bytes) := by
  have hl : hs.length = n := by have := h.1.1; rw [fsCells_len] at this; omega
  have h1 := RdN.of_own h.1
  obtain ⟨b, o, e, hc⟩ := h1.2 (by omega)
  have hg : hs[k]? = some hs[k] := List.getElem?_eq_getElem (by omega)
  refine ⟨b, o, hs[k].1, hs[k].2.1, hs[k].2.2, by simp [hg], e, fun j v hv => ?_, h.2 _ (List.getElem_mem _)⟩
  have hj : j < 4 := by
    have := (List.getElem?_eq_some_iff.1 hv).1
    simpa [fcells] using this
  rw [Nat.add_assoc]
  exact hc _ _ (by rw [fsCells_at hs k j _ hg hj]; exact hv)
theorem world_gen {F G : World → Prop} {W : World} (hf : F W) (h : ∀ W', F W' → G W') : G W := h W hf
structure CgS (w1 : World) (fs : List Fld) (A : Option Addr) (c : Nat) (cs : Array Value) (W : World) : Prop where
  n : Blk W w1.heap.size 3 (vrow (numsV fs))
  s : Blk W (w1.heap.size + 1) 77 cs
  x : Ext w1 W
  o : OwnLs W w1.heap.size A ((runOf fs).map fun b => (unl b).1) c
theorem CgS.set {w1 : World} {fs : List Fld} {A : Option Addr} {c : Nat} {cs cs2 : Array Value} {W : World} (h : CgS w1 fs A c cs W) (i : Nat) (v : Value) (hc : cs.setIfInBounds i v = cs2) : CgS w1 fs A c cs2 (W.setCell ⟨w1.heap.size + 1, i, none⟩ v) where
  n := BlkF (by dsimp only; omega) h.n
  s := hc ▸ BlkS h.s
  x := ExtS (by dsimp only; omega) h.x
  o := (Turn.cell (F := [w1.heap.size + 1]) (by simp)).own h.o (fun r hr hc => blk_off h.o h.s (by decide) (by rw [← List.mem_singleton.1 hc]; exact hr))
def CgR (w1 : World) (gn gs : Nat) (fs : List Fld) (c10 c11 c12 c32 : Value) (wr : World) : Prop :=
  ∃ (k : Nat) (gap : Bool) (A : Option Addr) (c : Nat), c32 = .int .i64 (k : Nat) ∧ k ≤ fs.length ∧ c10 = .int .i64 ((12 + (runOf (fs.take k)).length : Nat) : Int) ∧ c11 = .bool gap ∧ c12 = .bool (allOk (fs.take k)) ∧ RdOk (fs.take k) gap ∧
    Ext w1 wr ∧ Blk wr gn 3 (vrow (numsV (fs.take k))) ∧ Blk wr gs 77 (stcells (cgSt (fs.take k)) A c) ∧ OwnLs wr w1.heap.size A ((runOf (fs.take k)).map fun b => (unl b).1) c
set_option maxRecDepth 100000 in
set_option maxHeartbeats 16000000 in
theorem rcdec_any (A : Option Addr) (n c : Nat) (l : List UInt8) (w : World) (hr : Rd w A n (u8s l)) (hnc : n ≤ c) (hn : n ≤ maxLen) :
    Calls Tryz.prog 85 #[.slice A n c] w (CanDPost w l) := by
  have KD := Lib.hid fun W (hx : Ext w W) => rdec_any A n c l W (hr.ext hx) hnc hn
  unfold DecPost at KD
  unfold CanDPost
  clear hr hnc hn
  obtain ⟨⟨fs, at_, E⟩, hd⟩ : ∃ x, x = dec l := ⟨_, rfl⟩
  rw [← hd] at KD
  dsimp only at KD
  by_cases hE : E = 0
  · subst hE
    obtain ⟨i1, i2, hfw, hfp, i5, i6, hft, i8⟩ := dec_inv (b := l) (by rw [← hd])
    rw [← hd] at hfw hfp hft
    dsimp only at hfw hfp hft
    clear i1 i2 i5 i6 i8
    have hrise := rising_of_faults hft
    have hbd := faults_bound fs hfw hft
    have hn31 : fs.length ≤ 31 := by omega
    have HD := Lib.hid hd
    have HFt := Lib.hid hft
    have HRi := Lib.hid hrise
    have HFw := Lib.hid hfw
    clear hd hft hrise hfw hfp hbd
    have hmk : ∀ w, (Instr.makeSlice 42 (.int .i64 11) (.int .i64 11)).run Tryz.prog w = .ok (.slice (some ⟨w.heap.size, 0, none⟩) 11 11) (w.alloc (.cells (madeCells #[.int .i64 0] 11) 3)) := fun _ => by kernel_rfl
    have hal := alloc_fld
    unfold fcells at hal
    dsimp only [noFld] at hal
    go_enter Tryz.func85, Tryz.ntmps85
    go_wp2_with (go_at_call 125; (with_reducible refine (KD.out _ (ExtA (ExtA (Ext.rfl' _)))).mono ?_); rintro e w1 ⟨Af, cf, hs, rfl, hx1, hof, hm⟩; have HOF := Lib.hid hof; have HM := Lib.hid hm; clear hof hm)
    have hB1 : Blk w1 w.heap.size 77 (stcells zeroSt none 0) := BlkE (BlkA (BlkN rfl)) hx1
    have hB2 : Blk w1 (w.heap.size + 1) 77 (stcells zeroSt none 0) := BlkE (BlkN (by simp)) hx1
    have hwW : Ext w w1 := exA
    go_loopw [10, 11, 12, 32] (fun c10 c11 c12 c32 wr => CgR w1 w1.heap.size (w1.heap.size + 1) fs c10 c11 c12 c32 wr) (fun _ _ _ c32 _ => fs.length - (intOf c32).toNat)
    case atStart => exact ⟨0, false, none, 0, rfl, by omega, rfl, rfl, rfl, rd_start, exA, Blk_eq (BlkA (BlkN rfl)) (by rw [List.take_zero]; kernel_rfl), BlkN (by simp), World.ownsRow_nil _ _ _ _⟩
    case round =>
      obtain ⟨k, gap, A1, c1, rfl, hk, rfl, rfl, rfl, hok, hx, hbn, hbs, ho⟩ := hrel
      have Hok := Lib.hid hok
      have HBn := Lib.hid hbn
      have HBs := Lib.hid hbs
      have HO := Lib.hid ho
      have HX := Lib.hid hx
      clear hok hbn hbs ho hx
      by_cases hlt : k < fs.length
      · obtain ⟨b, o, f, Ae, ce, hfk, rfl, hcel1, hown1⟩ := of_at HOF.out hlt
        rw [HM.out] at hfk
        have hcel := range_ext hcel1 HX.out
        have hrd : Rd wr Ae f.bytes.length (u8s f.bytes) := (rd_own hown1).ext HX.out
        have hncap := own_ncap hown1
        clear hcel1 hown1
        have hfk2 : fs[k] = f := by rw [List.getElem?_eq_getElem hlt] at hfk; injection hfk
        have hts : fs.take (k + 1) = fs.take k ++ [f] := by rw [List.take_succ_eq_append_getElem hlt, hfk2]
        have hrs := rise_snoc HRi.out hlt
        rw [hfk2] at hrs
        have hmem : f ∈ fs := by rw [← hfk2]; exact List.getElem_mem hlt
        have hft1 := rising_mem HRi.out f hmem
        have hdr : fs = fs.take k ++ f :: fs.drop (k + 1) := by
          rw [← hfk2, ← List.drop_eq_getElem_cons hlt, List.take_append_drop]
        have hfw := HFw.out f hmem
        obtain ⟨tag, tx, nm, bs⟩ := f
        dsimp only [Fld.wf] at hft1 hfw
        obtain ⟨T, rfl⟩ : ∃ T : Nat, tag = (T : Int) := ⟨tag.toNat, by omega⟩
        have HT := Lib.hid hts
        have HS := Lib.hid hrs
        have HDr := Lib.hid hdr
        have HMm := Lib.hid hmem
        have Hrd := Lib.hid hrd
        unfold fcells at hcel
        dsimp only at hcel
        have e0 : wr.cell? ⟨b, o + k * 4, none⟩ = some (.int .i64 (T : Nat)) := hcel 0 _ rfl
        have e1 : wr.cell? ⟨b, o + k * 4 + 1, none⟩ = some (.bool tx) := hcel 1 _ rfl
        have e2 : wr.cell? ⟨b, o + k * 4 + 2, none⟩ = some (.int .u64 (nm : Nat)) := hcel 2 _ rfl
        have e3 : wr.cell? ⟨b, o + k * 4 + 3, none⟩ = some (.slice Ae bs.length ce) := hcel 3 _ rfl
        have hnm : nm ≤ 18446744073709551615 := by omega
        have Hcap := Lib.hid hncap
        clear hfk hfk2 hts hrs hmem hdr hcel hrd hncap
        by_cases h10 : T ≤ 10
        · cases tx with
          | true =>
            have hf33 : formE fs = 33 := bad_low HMm.out (by dsimp only; omega) (by unfold wrongF; dsimp only; rw [decide_eq_false (by omega)]; rfl)
            have HQ : Hid (canD l = (zeroSt, 33)) := Lib.hid (by unfold canD; rw [← HD.out]; simp [hf33])
            have hb1 := BlkE hB1 HX.out
            have hb2 := BlkE hB2 HX.out
            clear hf33
            go_wp2_with (first
              | (with_reducible refine wpL_load_row rfl 77 (.tmp 4) rfl _ 77 _ 12 rfl (BlkA hb2) st_wide (st12_size _ _ _) ?_)
              | (change wpList _ _ _ (⟨none, .store _ (.tmp 2) (.tmp 44), _, _, _, _⟩ :: _) _ _; refine wpL_store_row rfl 77 (.tmp 2) (.tmp 44) rfl w.heap.size 77 _ _ rfl rfl (BlkA hb1) rfl (st12_one_ _ _ _) 12 st_wide rfl ?_))
            refine bodyPost_ret (v := .tuple #[.agg (stcells zeroSt none 0), .int .i64 33]) (res_row_t rfl _ w.heap.size 77 _ 12 _ rfl rfl (Blk.setRow_ (BlkA hb1)) st_wide rfl) rfl ?_
            rw [HQ.out]
            have hxw : Ext w wr := hwW.tr HX.out
            exact ⟨none, 0, rfl, exA, World.ownsRow_nil _ _ _ _⟩
          | false =>
            obtain ⟨s1, s2, s3⟩ := stp_low (f := ⟨(T : Int), false, nm, bs⟩) HS.out Hok.out (by dsimp only; omega) (by unfold wrongF; dsimp only; rw [decide_eq_false (by omega)]; rfl)
            have s4 := cg_same HS.out (by dsimp only; omega) s2
            have s5 : (numsV (fs.take k)).set T ((clampN nm : Nat) : Int) = numsV (fs.take k ++ [⟨(T : Int), false, nm, bs⟩]) := numsV_set HS.out rfl rfl (by omega)
            have s6 : allOk (fs.take k ++ [⟨(T : Int), false, nm, bs⟩]) = allOk (fs.take k) := by unfold allOk; rw [s2]
            have HX3 := Lib.hid (And.intro s1 (And.intro s2 (And.intro s4 (And.intro s5 s6))))
            have KC := Lib.hid fun W => clamp_any nm hnm W
            have g0 : wr.cell? ⟨w1.heap.size, T, none⟩ = some (.int .i64 (numI (fs.take k) (T : Int))) := (HBn.out.cell T).trans (numsV_get _ (by omega))
            have g1 : wr.frozen? ⟨w1.heap.size, T, none⟩ = false := HBn.out.frozen T
            have hlw : w1.heap.size < wr.heap.size := HBn.out.lt
            have t1 : (0 : Int) ≤ (T : Int) := by omega
            have t2 : (T : Int) < 11 := by omega
            have hcl := clampN_le nm
            clear s1 s2 s3 s4 s5 s6 hnm
            generalize clampN nm = m at *
            go_wp2_with fail
            have HSQ := Lib.hid (show ((wr.alloc (.cells #[.int .i64 (T : Nat), .bool false, .int .u64 (nm : Nat), .slice Ae bs.length ce] 210)).drew).cell? ⟨wr.heap.size, 0, none⟩ = some (.int .i64 (T : Nat)) ∧ ((wr.alloc (.cells #[.int .i64 (T : Nat), .bool false, .int .u64 (nm : Nat), .slice Ae bs.length ce] 210)).drew).cell? ⟨wr.heap.size, 2, none⟩ = some (.int .u64 (nm : Nat)) from ⟨(BlkD (BlkN rfl)).cell 0, (BlkD (BlkN rfl)).cell 2⟩)
            have HSR : Hid (∀ v, (((wr.setCell ⟨w1.heap.size, T, none⟩ v).alloc (.cells #[.int .i64 (T : Nat), .bool false, .int .u64 (nm : Nat), .slice Ae bs.length ce] 210)).drew).cell? ⟨wr.heap.size, 0, none⟩ = some (.int .i64 (T : Nat)) ∧ (((wr.setCell ⟨w1.heap.size, T, none⟩ v).alloc (.cells #[.int .i64 (T : Nat), .bool false, .int .u64 (nm : Nat), .slice Ae bs.length ce] 210)).drew).cell? ⟨wr.heap.size, 2, none⟩ = some (.int .u64 (nm : Nat))) := Lib.hid fun v => ⟨(BlkD (BlkN (by simp))).cell 0, (BlkD (BlkN (by simp))).cell 2⟩
            go_region_held3 (fun w' => w'.cell? ⟨wr.heap.size, 0, none⟩ = some (.int .i64 (T : Nat)) ∧ w'.cell? ⟨wr.heap.size, 2, none⟩ = some (.int .u64 (nm : Nat)))
              (first
                | exact HSQ.out
                | exact HSR.out _
                | (go_split_ands; refine ⟨?_, ?_⟩ <;> assumption))
              ((go_at_call 126; (with_reducible refine (KC.out _).mono ?_); rintro e w5 ⟨rfl, rfl⟩))
            all_goals
              go_wp2_with fail
              go_roundw
              case rel =>
                obtain ⟨s1, s2, s4, s5, s6⟩ := HX3.out
                refine ⟨k + 1, gap, A1, c1, by go_num, by omega, by rw [HT.out, s2]; go_num, rfl, by rw [HT.out, s6], by rw [HT.out]; exact s1, ExtD (ExtA (ExtS (Nat.le_refl _) HX.out)), ?_, ?_, ?_⟩
                · rw [HT.out, ← s5]
                  exact Blk_eq (BlkD (BlkA (BlkS HBn.out))) (vrow_set _ _ _)
                · rw [HT.out, s4]
                  exact BlkD (BlkA (BlkF (by dsimp only; omega) HBs.out))
                · rw [HT.out, s2]
                  exact own_ext (ExtD (ExtA (Ext.rfl' _))) ((Turn.cell (F := [w1.heap.size]) (by simp)).own HO.out (fun r hr hc => blk_off HO.out HBn.out (by decide) (by rw [← List.mem_singleton.1 hc]; exact hr)))
              case measure => simp [intOf]; omega
        · obtain ⟨L, hL⟩ : ∃ L, L = (runOf (fs.take k)).length := ⟨_, rfl⟩
          have HL := Lib.hid hL
          rw [← hL]
          clear hL
          have hnx : ((12 + L : Nat) : Int) = 12 + (L : Int) := by omega
          by_cases hg : (11 < T ∧ T ≠ 12 + L) ∨ 27 < T
          · obtain ⟨s1, s2⟩ := stp_gap (f := ⟨(T : Int), tx, nm, bs⟩) HS.out Hok.out (by dsimp only; rw [← HL.out]; omega)
            have s4 := cg_same HS.out (by dsimp only; omega) s2
            have s5 := numsV_same (f := ⟨(T : Int), tx, nm, bs⟩) HS.out (by dsimp only; omega)
            have s6 : allOk (fs.take k ++ [⟨(T : Int), tx, nm, bs⟩]) = allOk (fs.take k) := by unfold allOk; rw [s2]
            have HX3 := Lib.hid (And.intro s1 (And.intro s2 (And.intro s4 (And.intro s5 s6))))
            have u0 : decide ((T : Int) ≤ 10) = false := by simp; omega
            have u1 : decide ((11 : Int) < (T : Int)) = true := by simp; omega
            have fin : ∀ wz, Ext wr wz → CgR w1 w1.heap.size (w1.heap.size + 1) fs (.int .i64 (12 + (L : Int))) (.bool true) (.bool (allOk (fs.take k))) (.int .i64 ((k : Int) + 1)) wz := fun wz hxz => by
              obtain ⟨s1, s2, s4, s5, s6⟩ := HX3.out
              refine ⟨k + 1, true, A1, c1, by go_num, by omega, by rw [HT.out, s2, ← HL.out, ← hnx], rfl, by rw [HT.out, s6], by rw [HT.out]; exact s1, HX.out.tr hxz, by rw [HT.out, s5]; exact BlkE HBn.out hxz, by rw [HT.out, s4]; exact BlkE HBs.out hxz, by rw [HT.out, s2]; exact own_ext hxz HO.out⟩
            have Fin := Lib.hid fin
            clear s1 s2 s4 s5 s6 fin hnx
            by_cases hq : T = 12 + L
            · have u2 : ((T : Int) != 12 + (L : Int)) = false := by simp; omega
              have u3 : decide ((27 : Int) < (T : Int)) = true := by simp; omega
              clear hg hq
              go_wp2_with fail
              go_roundw
              case rel => exact Fin.out _ exA
              case measure => simp [intOf]; omega
            · have u2 : ((T : Int) != 12 + (L : Int)) = true := by simp; omega
              clear hg hq
              go_wp2_with fail
              go_roundw
              case rel => exact Fin.out _ exA
              case measure => simp [intOf]; omega
          · cases tx with
            | false =>
              have hf33 : formE fs = 33 := by
                by_cases h11 : T = 11
                · exact bad_low HMm.out (by dsimp only; omega) (by unfold wrongF; dsimp only; rw [decide_eq_true (by omega)]; rfl)
                · exact bad_line HDr.out HRi.out (by dsimp only; rw [← HL.out]; omega) (by dsimp only; omega) rfl
              have HQ : Hid (canD l = (zeroSt, 33)) := Lib.hid (by unfold canD; rw [← HD.out]; simp [hf33])
              have hb1 := BlkE hB1 HX.out
              have hb2 := BlkE hB2 HX.out
              have u0 : decide ((T : Int) ≤ 10) = false := by simp; omega
              have u3 : decide ((27 : Int) < (T : Int)) = false := by simp; omega
              clear hf33 hnx
              have hxw : Ext w wr := hwW.tr HX.out
              by_cases h11 : 11 < T
              · have u1 : decide ((11 : Int) < (T : Int)) = true := by simp; omega
                have u2 : ((T : Int) != 12 + (L : Int)) = false := by simp; omega
                clear hg h11
                go_wp2_with (first
                  | (with_reducible refine wpL_load_row rfl 77 (.tmp 4) rfl _ 77 _ 12 rfl (BlkA hb2) st_wide (st12_size _ _ _) ?_)
                  | (change wpList _ _ _ (⟨none, .store _ (.tmp 2) (.tmp 69), _, _, _, _⟩ :: _) _ _; refine wpL_store_row rfl 77 (.tmp 2) (.tmp 69) rfl w.heap.size 77 _ _ rfl rfl (BlkA hb1) rfl (st12_one_ _ _ _) 12 st_wide rfl ?_))
                refine bodyPost_ret (v := .tuple #[.agg (stcells zeroSt none 0), .int .i64 33]) (res_row_t rfl _ w.heap.size 77 _ 12 _ rfl rfl (Blk.setRow_ (BlkA hb1)) st_wide rfl) rfl ?_
                rw [HQ.out]
                exact ⟨none, 0, rfl, exA, World.ownsRow_nil _ _ _ _⟩
              · have u1 : decide ((11 : Int) < (T : Int)) = false := by simp; omega
                clear hg h11
                go_wp2_with (first
                  | (with_reducible refine wpL_load_row rfl 77 (.tmp 4) rfl _ 77 _ 12 rfl (BlkA hb2) st_wide (st12_size _ _ _) ?_)
                  | (change wpList _ _ _ (⟨none, .store _ (.tmp 2) (.tmp 69), _, _, _, _⟩ :: _) _ _; refine wpL_store_row rfl 77 (.tmp 2) (.tmp 69) rfl w.heap.size 77 _ _ rfl rfl (BlkA hb1) rfl (st12_one_ _ _ _) 12 st_wide rfl ?_))
                refine bodyPost_ret (v := .tuple #[.agg (stcells zeroSt none 0), .int .i64 33]) (res_row_t rfl _ w.heap.size 77 _ 12 _ rfl rfl (Blk.setRow_ (BlkA hb1)) st_wide rfl) rfl ?_
                rw [HQ.out]
                exact ⟨none, 0, rfl, exA, World.ownsRow_nil _ _ _ _⟩
            | true =>
              have u0 : decide ((T : Int) ≤ 10) = false := by simp; omega
              have u3 : decide ((27 : Int) < (T : Int)) = false := by simp; omega
              have hls : w1.heap.size + 1 < wr.heap.size := HBs.out.lt
              by_cases h11 : T = 11
              · have u1 : decide ((11 : Int) < (T : Int)) = false := by simp; omega
                have u4 : ((T : Int) == 11) = true := by simp; omega
                obtain ⟨s1, s2, s3⟩ := stp_low (f := ⟨(T : Int), true, nm, bs⟩) HS.out Hok.out (by dsimp only; omega) (by unfold wrongF; dsimp only; rw [decide_eq_true (by omega)]; rfl)
                have s5 := numsV_same (f := ⟨(T : Int), true, nm, bs⟩) HS.out (by dsimp only; omega)
                have s6 : allOk (fs.take k ++ [⟨(T : Int), true, nm, bs⟩]) = allOk (fs.take k) := by unfold allOk; rw [s2]
                have s4 : textAt (fs.take k ++ [⟨(T : Int), true, nm, bs⟩]) 11 = bs := by rw [textAt_snoc HS.out, if_pos (by dsimp only; omega)]; rfl
                have HX3 := Lib.hid (And.intro s1 (And.intro s2 (And.intro s4 (And.intro s5 s6))))
                have kv := fun ob => str_of ce (Hrd.out.ext (ExtA (o := ob) (Ext.rfl' wr)))
                have p11 : wr.cell? ⟨w1.heap.size + 1, 11, none⟩ = some (.string ⟨(textAt (fs.take k) 11).toArray⟩) := HBs.out.cell 11
                have f11 : wr.frozen? ⟨w1.heap.size + 1, 11, none⟩ = false := HBs.out.frozen 11
                clear s1 s2 s3 s4 s5 s6 hg
                go_wp2_with fail
                go_roundw
                case rel =>
                  obtain ⟨s1, s2, s4, s5, s6⟩ := HX3.out
                  have hx0 := HX.out
                  refine ⟨k + 1, gap, A1, c1, by go_num, by omega, by rw [HT.out, s2, ← HL.out], rfl, by rw [HT.out, s6], by rw [HT.out]; exact s1, exA, ?_, ?_, ?_⟩
                  · rw [HT.out, s5]
                    exact BlkA (BlkF (by dsimp only; omega) HBn.out)
                  · rw [HT.out]
                    exact Blk_eq (BlkA (BlkS HBs.out)) (by unfold cgSt stcells; rw [s2, s4]; rfl)
                  · rw [HT.out, s2]
                    exact own_ext (ExtA (Ext.rfl' _)) ((Turn.cell (F := [w1.heap.size + 1]) (by simp)).own HO.out (fun r hr hc => blk_off HO.out HBs.out (by decide) (by rw [← List.mem_singleton.1 hc]; exact hr)))
                case measure => simp [intOf]; omega
              · have u1 : decide ((11 : Int) < (T : Int)) = true := by simp; omega
                have u2 : ((T : Int) != 12 + (L : Int)) = false := by simp; omega
                have u4 : ((T : Int) == 11) = false := by simp; omega
                obtain ⟨hbne, hb200⟩ := fld_ok HFt.out _ HMm.out rfl
                dsimp only at hbne hb200
                obtain ⟨s1, s2, s3⟩ := stp_line (f := ⟨(T : Int), true, nm, bs⟩) HS.out Hok.out (by dsimp only; rw [← HL.out]; omega) (by dsimp only; omega) rfl hbne
                have s5 := numsV_same (f := ⟨(T : Int), true, nm, bs⟩) HS.out (by dsimp only; omega)
                have s6 : allOk (fs.take k ++ [⟨(T : Int), true, nm, bs⟩]) = (allOk (fs.take k) && (unl bs).2) := by unfold allOk; rw [s2, List.all_append]; simp
                have s4 : textAt (fs.take k ++ [⟨(T : Int), true, nm, bs⟩]) 11 = textAt (fs.take k) 11 := by rw [textAt_snoc HS.out, if_neg (by dsimp only; omega)]
                have hL2 : ((runOf (fs.take k)).map fun b => (unl b).1).length = L := by rw [List.length_map, ← HL.out]
                have KL := Lib.hid fun W (hx : Ext wr W) => rline_any Ae bs.length ce bs W (Hrd.out.ext hx) Hcap.out (by simp only [maxLen]; omega)
                unfold UnPost at KL
                have hL3 : L ≤ 16 := by rw [HL.out]; exact run_len _ 16 12
                have s7 : lnCells ((runOf (fs.take k ++ [⟨(T : Int), true, nm, bs⟩])).map fun b => (unl b).1) = lnCells ((runOf (fs.take k)).map fun b => (unl b).1) ++ lnCells [(unl bs).1] := by rw [s2, List.map_append, lnCells_app]; rfl
                have HL2 := Lib.hid hL2
                have HX3 := Lib.hid (And.intro s1 (And.intro s2 (And.intro s4 (And.intro s5 (And.intro s6 s7)))))
                have hls1 := HBn.out.lt
                clear s1 s2 s3 s4 s5 s6 s7 hL2 hg hbne hb200 hnx
                generalize unl bs = U at *
                obtain ⟨⟨li, lp, lq, lsh⟩, B2⟩ := U
                dsimp only at KL
                have HOK := Lib.hid HX3.out.2.2.2.2.1
                generalize allOk (fs.take k) = B1 at *
                have hal2 := alloc_ln
                unfold lncells at hal2
                dsimp only at hal2
                go_wp2_with (first
                  | (go_at_call 127; (with_reducible refine (KL.out _ (ExtA (Ext.rfl' _))).mono ?_); rintro e w5 ⟨rfl, hx5⟩; have HX5 := Lib.hid (show Ext wr w5 from (ExtA (Ext.rfl' wr)).tr hx5); have HB5 := Lib.hid (BlkE HBs.out HX5.out); have HN5 := Lib.hid (BlkE HBn.out HX5.out); have b5 : ∀ ob, (w5.alloc ob).cell? ⟨w1.heap.size + 1, 5, none⟩ = some (.slice A1 L c1) := (fun ob => ((BlkA HB5.out).cell 5).trans (by show some (Value.slice A1 ((runOf (fs.take k)).map fun b => (unl b).1).length c1) = _; rw [HL2.out])); have O5 := Lib.hid (show w5.ownsRow w1.heap.size 79 4 (.slice A1 L c1) L (lnCells ((runOf (fs.take k)).map fun b => (unl b).1)) from (by have := own_ext HX5.out HO.out; unfold OwnLs at this; rw [HL2.out] at this; exact this)); have hz5 := Lib.hid (HX.out.tr HX5.out).size)
                  | (at_builtin; refine wpL_append rfl (.tmp 88) (.tmp 90) 75 rfl w1.heap.size 79 _ 4 32 Tryz.underlying75 el_ln _ L _ rfl ((O5.out.alloc _).alloc _) _ 1 1 _ rfl (rdL_new _ li lp lq lsh _ (by simp)) (lnCells_one _) (L + 1) _ rfl rfl (by simp only [maxLen]; omega) (by omega) (by have := hz5.out; simp; omega) ?_; intro v6 w6 hown6 hg6 hl6; obtain ⟨A6, c6, rfl⟩ := own_slice hown6; have X6 : Hid (Ext w1 w6) := Lib.hid (Ext.grown (ExtA (ExtA (HX.out.tr HX5.out))) hg6 (fun r hr => (O5.out.lt r hr).1)); have B6 := Lib.hid (BlkG (BlkA (BlkA HB5.out)) hg6 (fun hc => (blk_off O5.out HB5.out (by decide)) hc.symm)); have N6 := Lib.hid (BlkG (BlkA (BlkA HN5.out)) hg6 (fun hc => (blk_off O5.out HN5.out (by decide)) hc.symm)); have O6 := Lib.hid hown6; clear hown6 hg6 hl6; have z6 : w6.cell? ⟨w1.heap.size + 1, 5, none⟩ = some (.slice A1 L c1) := (B6.out.cell 5).trans (by show some (Value.slice A1 ((runOf (fs.take k)).map fun b => (unl b).1).length c1) = _; rw [HL2.out]); have y6 : w6.frozen? ⟨w1.heap.size + 1, 5, none⟩ = false := B6.out.frozen 5))
                all_goals
                  go_roundw
                  case rel =>
                    obtain ⟨s1, s2, s4, s5, s6, s7⟩ := HX3.out
                    have hlen : ((runOf (fs.take (k + 1))).map fun b => (unl b).1).length = L + 1 := by rw [HT.out, s2, List.length_map, List.length_append, ← HL.out]; rfl
                    have hx0 := X6.out
                    refine ⟨k + 1, gap, A6, c6, by go_num, by omega, by rw [HT.out, s2, List.length_append, ← HL.out]; go_num, rfl, by rw [HT.out, s6]; first | rfl | simp [*], by rw [HT.out]; exact s1, exA, ?_, ?_, ?_⟩
                    · rw [HT.out, s5]
                      exact BlkF (by dsimp only; omega) N6.out
                    · refine Blk_eq (BlkS B6.out) ?_
                      unfold cgSt stcells
                      dsimp only
                      rw [hlen, HT.out, s4]
                      rfl
                    · have hO6 : OwnLs w6 w1.heap.size A6 ((runOf (fs.take (k + 1))).map fun b => (unl b).1) c6 := by unfold OwnLs; rw [hlen, HT.out, s7]; exact O6.out
                      exact (Turn.cell (F := [w1.heap.size + 1]) (by simp)).own hO6 (fun r hr hc => blk_off hO6 B6.out (by decide) (by rw [← List.mem_singleton.1 hc]; exact hr))
                  case measure => simp [intOf]; omega
      · obtain rfl : k = fs.length := by omega
        rw [List.take_length] at Hok HBn HBs HO
        rw [List.take_length]
        have hfe := rd_end Hok.out
        have hb1 := BlkE hB1 HX.out
        have hb2 := BlkE hB2 HX.out
        have hxw : Ext w wr := hwW.tr HX.out
        cases gap with
        | true =>
          have HQ : Hid (canD l = (zeroSt, 20)) := Lib.hid (by unfold canD; rw [← HD.out]; simp [hfe])
          clear hfe
          go_wp2_with (first
            | (with_reducible refine wpL_load_row rfl 77 (.tmp 4) rfl _ 77 _ 12 rfl hb2 st_wide (st12_size _ _ _) ?_)
            | (change wpList _ _ _ (⟨none, .store _ (.tmp 2) (.tmp 97), _, _, _, _⟩ :: _) _ _; refine wpL_store_row rfl 77 (.tmp 2) (.tmp 97) rfl w.heap.size 77 _ _ rfl rfl hb1 rfl (st12_one_ _ _ _) 12 st_wide rfl ?_))
          refine bodyPost_ret (v := .tuple #[.agg (stcells zeroSt none 0), .int .i64 20]) (res_row_t rfl _ w.heap.size 77 _ 12 _ rfl rfl (Blk.setRow_ hb1) st_wide rfl) rfl ?_
          rw [HQ.out]
          exact ⟨none, 0, rfl, exA, World.ownsRow_nil _ _ _ _⟩
        | false =>
          have hfe0 : formE fs = 0 := by simpa using hfe
          have HF0 := Lib.hid hfe0
          clear hfe hfe0
          have hS : CgS w1 fs A1 c1 (stcells ⟨0, 0, 0, 0, 0, (runOf fs).map fun b => (unl b).1, 0, 0, 0, 0, 0, ⟨(textAt fs 11).toArray⟩⟩ A1 c1) wr := ⟨HBn.out, HBs.out, HX.out, HO.out⟩
          clear hb1 hb2 hxw HBn HBs HO HX Hok
          have g0 : wr.cell? ⟨w1.heap.size, 1, none⟩ = some (.int .i64 (numI fs 1)) := (hS.n.cell 1).trans (numsV_get _ (by omega))
          have p0 : wr.cell? ⟨w1.heap.size + 1, 0, none⟩ = some (.int .i64 0) := hS.s.cell 0
          have f0 : wr.frozen? ⟨w1.heap.size + 1, 0, none⟩ = false := hS.s.frozen 0
          have hS1 := hS.set (cs2 := (stcells ⟨(numI fs 1), 0, 0, 0, 0, (runOf fs).map fun b => (unl b).1, 0, 0, 0, 0, 0, ⟨(textAt fs 11).toArray⟩⟩ A1 c1)) 0 (.int .i64 (numI fs 1)) (by unfold stcells; simp only [List.setIfInBounds_toArray, List.set_cons_zero, List.set_cons_succ])
          have HS := Lib.hid hS1
          clear hS hS1
          go_upto_region 32 with fail
          refine world_gen (F := CgS w1 fs A1 c1 (stcells ⟨(numI fs 1), 0, 0, 0, 0, (runOf fs).map fun b => (unl b).1, 0, 0, 0, 0, 0, ⟨(textAt fs 11).toArray⟩⟩ A1 c1)) (G := fun W => Code.wp Tryz.prog _ _ _ W) HS.out ?_
          clear g0 p0 f0 HS
          intro W1 hS
          have g0 : W1.cell? ⟨w1.heap.size, 2, none⟩ = some (.int .i64 (numI fs 2)) := (hS.n.cell 2).trans (numsV_get _ (by omega))
          have p0 : W1.cell? ⟨w1.heap.size + 1, 1, none⟩ = some (.int .i64 0) := hS.s.cell 1
          have f0 : W1.frozen? ⟨w1.heap.size + 1, 1, none⟩ = false := hS.s.frozen 1
          have hS1 := hS.set (cs2 := (stcells ⟨(numI fs 1), (numI fs 2), 0, 0, 0, (runOf fs).map fun b => (unl b).1, 0, 0, 0, 0, 0, ⟨(textAt fs 11).toArray⟩⟩ A1 c1)) 1 (.int .i64 (numI fs 2)) (by unfold stcells; simp only [List.setIfInBounds_toArray, List.set_cons_zero, List.set_cons_succ])
          have HS := Lib.hid hS1
          clear hS hS1
          go_upto_region 33 with fail
          refine world_gen (F := CgS w1 fs A1 c1 (stcells ⟨(numI fs 1), (numI fs 2), 0, 0, 0, (runOf fs).map fun b => (unl b).1, 0, 0, 0, 0, 0, ⟨(textAt fs 11).toArray⟩⟩ A1 c1)) (G := fun W => Code.wp Tryz.prog _ _ _ W) HS.out ?_
          clear g0 p0 f0 HS
          intro W2 hS
          have g0 : W2.cell? ⟨w1.heap.size, 3, none⟩ = some (.int .i64 (numI fs 3)) := (hS.n.cell 3).trans (numsV_get _ (by omega))
          have p0 : W2.cell? ⟨w1.heap.size + 1, 2, none⟩ = some (.int .i64 0) := hS.s.cell 2
          have f0 : W2.frozen? ⟨w1.heap.size + 1, 2, none⟩ = false := hS.s.frozen 2
          have hS1 := hS.set (cs2 := (stcells ⟨(numI fs 1), (numI fs 2), (numI fs 3), 0, 0, (runOf fs).map fun b => (unl b).1, 0, 0, 0, 0, 0, ⟨(textAt fs 11).toArray⟩⟩ A1 c1)) 2 (.int .i64 (numI fs 3)) (by unfold stcells; simp only [List.setIfInBounds_toArray, List.set_cons_zero, List.set_cons_succ])
          have HS := Lib.hid hS1
          clear hS hS1
          go_upto_region 34 with fail
          refine world_gen (F := CgS w1 fs A1 c1 (stcells ⟨(numI fs 1), (numI fs 2), (numI fs 3), 0, 0, (runOf fs).map fun b => (unl b).1, 0, 0, 0, 0, 0, ⟨(textAt fs 11).toArray⟩⟩ A1 c1)) (G := fun W => Code.wp Tryz.prog _ _ _ W) HS.out ?_
          clear g0 p0 f0 HS
          intro W3 hS
          have g0 : W3.cell? ⟨w1.heap.size, 4, none⟩ = some (.int .i64 (numI fs 4)) := (hS.n.cell 4).trans (numsV_get _ (by omega))
          have p0 : W3.cell? ⟨w1.heap.size + 1, 3, none⟩ = some (.int .i64 0) := hS.s.cell 3
          have f0 : W3.frozen? ⟨w1.heap.size + 1, 3, none⟩ = false := hS.s.frozen 3
          have hS1 := hS.set (cs2 := (stcells ⟨(numI fs 1), (numI fs 2), (numI fs 3), (numI fs 4), 0, (runOf fs).map fun b => (unl b).1, 0, 0, 0, 0, 0, ⟨(textAt fs 11).toArray⟩⟩ A1 c1)) 3 (.int .i64 (numI fs 4)) (by unfold stcells; simp only [List.setIfInBounds_toArray, List.set_cons_zero, List.set_cons_succ])
          have HS := Lib.hid hS1
          clear hS hS1
          go_upto_region 35 with fail
          refine world_gen (F := CgS w1 fs A1 c1 (stcells ⟨(numI fs 1), (numI fs 2), (numI fs 3), (numI fs 4), 0, (runOf fs).map fun b => (unl b).1, 0, 0, 0, 0, 0, ⟨(textAt fs 11).toArray⟩⟩ A1 c1)) (G := fun W => Code.wp Tryz.prog _ _ _ W) HS.out ?_
          clear g0 p0 f0 HS
          intro W4 hS
          have g0 : W4.cell? ⟨w1.heap.size, 5, none⟩ = some (.int .i64 (numI fs 5)) := (hS.n.cell 5).trans (numsV_get _ (by omega))
          have p0 : W4.cell? ⟨w1.heap.size + 1, 4, none⟩ = some (.int .i64 0) := hS.s.cell 4
          have f0 : W4.frozen? ⟨w1.heap.size + 1, 4, none⟩ = false := hS.s.frozen 4
          have hS1 := hS.set (cs2 := (stcells ⟨(numI fs 1), (numI fs 2), (numI fs 3), (numI fs 4), (numI fs 5), (runOf fs).map fun b => (unl b).1, 0, 0, 0, 0, 0, ⟨(textAt fs 11).toArray⟩⟩ A1 c1)) 4 (.int .i64 (numI fs 5)) (by unfold stcells; simp only [List.setIfInBounds_toArray, List.set_cons_zero, List.set_cons_succ])
          have HS := Lib.hid hS1
          clear hS hS1
          go_upto_region 36 with fail
          refine world_gen (F := CgS w1 fs A1 c1 (stcells ⟨(numI fs 1), (numI fs 2), (numI fs 3), (numI fs 4), (numI fs 5), (runOf fs).map fun b => (unl b).1, 0, 0, 0, 0, 0, ⟨(textAt fs 11).toArray⟩⟩ A1 c1)) (G := fun W => Code.wp Tryz.prog _ _ _ W) HS.out ?_
          clear g0 p0 f0 HS
          intro W5 hS
          have g0 : W5.cell? ⟨w1.heap.size, 6, none⟩ = some (.int .i64 (numI fs 6)) := (hS.n.cell 6).trans (numsV_get _ (by omega))
          have p0 : W5.cell? ⟨w1.heap.size + 1, 6, none⟩ = some (.int .i64 0) := hS.s.cell 6
          have f0 : W5.frozen? ⟨w1.heap.size + 1, 6, none⟩ = false := hS.s.frozen 6
          have hS1 := hS.set (cs2 := (stcells ⟨(numI fs 1), (numI fs 2), (numI fs 3), (numI fs 4), (numI fs 5), (runOf fs).map fun b => (unl b).1, (numI fs 6), 0, 0, 0, 0, ⟨(textAt fs 11).toArray⟩⟩ A1 c1)) 6 (.int .i64 (numI fs 6)) (by unfold stcells; simp only [List.setIfInBounds_toArray, List.set_cons_zero, List.set_cons_succ])
          have HS := Lib.hid hS1
          clear hS hS1
          go_upto_region 37 with fail
          refine world_gen (F := CgS w1 fs A1 c1 (stcells ⟨(numI fs 1), (numI fs 2), (numI fs 3), (numI fs 4), (numI fs 5), (runOf fs).map fun b => (unl b).1, (numI fs 6), 0, 0, 0, 0, ⟨(textAt fs 11).toArray⟩⟩ A1 c1)) (G := fun W => Code.wp Tryz.prog _ _ _ W) HS.out ?_
          clear g0 p0 f0 HS
          intro W6 hS
          have g0 : W6.cell? ⟨w1.heap.size, 7, none⟩ = some (.int .i64 (numI fs 7)) := (hS.n.cell 7).trans (numsV_get _ (by omega))
          have p0 : W6.cell? ⟨w1.heap.size + 1, 7, none⟩ = some (.int .i64 0) := hS.s.cell 7
          have f0 : W6.frozen? ⟨w1.heap.size + 1, 7, none⟩ = false := hS.s.frozen 7
          have hS1 := hS.set (cs2 := (stcells ⟨(numI fs 1), (numI fs 2), (numI fs 3), (numI fs 4), (numI fs 5), (runOf fs).map fun b => (unl b).1, (numI fs 6), (numI fs 7), 0, 0, 0, ⟨(textAt fs 11).toArray⟩⟩ A1 c1)) 7 (.int .i64 (numI fs 7)) (by unfold stcells; simp only [List.setIfInBounds_toArray, List.set_cons_zero, List.set_cons_succ])
          have HS := Lib.hid hS1
          clear hS hS1
          go_upto_region 38 with fail
          refine world_gen (F := CgS w1 fs A1 c1 (stcells ⟨(numI fs 1), (numI fs 2), (numI fs 3), (numI fs 4), (numI fs 5), (runOf fs).map fun b => (unl b).1, (numI fs 6), (numI fs 7), 0, 0, 0, ⟨(textAt fs 11).toArray⟩⟩ A1 c1)) (G := fun W => Code.wp Tryz.prog _ _ _ W) HS.out ?_
          clear g0 p0 f0 HS
          intro W7 hS
          have g0 : W7.cell? ⟨w1.heap.size, 8, none⟩ = some (.int .i64 (numI fs 8)) := (hS.n.cell 8).trans (numsV_get _ (by omega))
          have p0 : W7.cell? ⟨w1.heap.size + 1, 8, none⟩ = some (.int .i64 0) := hS.s.cell 8
          have f0 : W7.frozen? ⟨w1.heap.size + 1, 8, none⟩ = false := hS.s.frozen 8
          have hS1 := hS.set (cs2 := (stcells ⟨(numI fs 1), (numI fs 2), (numI fs 3), (numI fs 4), (numI fs 5), (runOf fs).map fun b => (unl b).1, (numI fs 6), (numI fs 7), (numI fs 8), 0, 0, ⟨(textAt fs 11).toArray⟩⟩ A1 c1)) 8 (.int .i64 (numI fs 8)) (by unfold stcells; simp only [List.setIfInBounds_toArray, List.set_cons_zero, List.set_cons_succ])
          have HS := Lib.hid hS1
          clear hS hS1
          go_upto_region 39 with fail
          refine world_gen (F := CgS w1 fs A1 c1 (stcells ⟨(numI fs 1), (numI fs 2), (numI fs 3), (numI fs 4), (numI fs 5), (runOf fs).map fun b => (unl b).1, (numI fs 6), (numI fs 7), (numI fs 8), 0, 0, ⟨(textAt fs 11).toArray⟩⟩ A1 c1)) (G := fun W => Code.wp Tryz.prog _ _ _ W) HS.out ?_
          clear g0 p0 f0 HS
          intro W8 hS
          have g0 : W8.cell? ⟨w1.heap.size, 9, none⟩ = some (.int .i64 (numI fs 9)) := (hS.n.cell 9).trans (numsV_get _ (by omega))
          have p0 : W8.cell? ⟨w1.heap.size + 1, 9, none⟩ = some (.int .i64 0) := hS.s.cell 9
          have f0 : W8.frozen? ⟨w1.heap.size + 1, 9, none⟩ = false := hS.s.frozen 9
          have hS1 := hS.set (cs2 := (stcells ⟨(numI fs 1), (numI fs 2), (numI fs 3), (numI fs 4), (numI fs 5), (runOf fs).map fun b => (unl b).1, (numI fs 6), (numI fs 7), (numI fs 8), (numI fs 9), 0, ⟨(textAt fs 11).toArray⟩⟩ A1 c1)) 9 (.int .i64 (numI fs 9)) (by unfold stcells; simp only [List.setIfInBounds_toArray, List.set_cons_zero, List.set_cons_succ])
          have HS := Lib.hid hS1
          clear hS hS1
          go_upto_region 40 with fail
          refine world_gen (F := CgS w1 fs A1 c1 (stcells ⟨(numI fs 1), (numI fs 2), (numI fs 3), (numI fs 4), (numI fs 5), (runOf fs).map fun b => (unl b).1, (numI fs 6), (numI fs 7), (numI fs 8), (numI fs 9), 0, ⟨(textAt fs 11).toArray⟩⟩ A1 c1)) (G := fun W => Code.wp Tryz.prog _ _ _ W) HS.out ?_
          clear g0 p0 f0 HS
          intro W9 hS
          have g0 : W9.cell? ⟨w1.heap.size, 10, none⟩ = some (.int .i64 (numI fs 10)) := (hS.n.cell 10).trans (numsV_get _ (by omega))
          have p0 : W9.cell? ⟨w1.heap.size + 1, 10, none⟩ = some (.int .i64 0) := hS.s.cell 10
          have f0 : W9.frozen? ⟨w1.heap.size + 1, 10, none⟩ = false := hS.s.frozen 10
          have hS1 := hS.set (cs2 := (stcells ⟨(numI fs 1), (numI fs 2), (numI fs 3), (numI fs 4), (numI fs 5), (runOf fs).map fun b => (unl b).1, (numI fs 6), (numI fs 7), (numI fs 8), (numI fs 9), (numI fs 10), ⟨(textAt fs 11).toArray⟩⟩ A1 c1)) 10 (.int .i64 (numI fs 10)) (by unfold stcells; simp only [List.setIfInBounds_toArray, List.set_cons_zero, List.set_cons_succ])
          have HS := Lib.hid hS1
          clear hS hS1
          go_upto_region 41 with fail
          refine world_gen (F := CgS w1 fs A1 c1 (stcells ⟨(numI fs 1), (numI fs 2), (numI fs 3), (numI fs 4), (numI fs 5), (runOf fs).map fun b => (unl b).1, (numI fs 6), (numI fs 7), (numI fs 8), (numI fs 9), (numI fs 10), ⟨(textAt fs 11).toArray⟩⟩ A1 c1)) (G := fun W => Code.wp Tryz.prog _ _ _ W) HS.out ?_
          clear g0 p0 f0 HS
          intro W10 hS
          have hB5 : Blk W10 (w1.heap.size + 1) 77 (stcells (stOf fs) A1 c1) := hS.s
          have hX5 := hS.x
          have hO5 : OwnLs W10 w1.heap.size A1 (stOf fs).lines c1 := hS.o
          clear hS
          have hb1 := BlkE hB1 hX5
          have hb2 := BlkE hB2 hX5
          have hxw : Ext w W10 := hwW.tr hX5
          have HB5 := Lib.hid hB5
          have HO5 := Lib.hid hO5
          have hvl : (stOf fs).lines.length ≤ 16 := by unfold stOf; simp only [List.length_map]; exact run_len _ 16 12
          have hvw : (stOf fs).who.size ≤ 200 := by
            have := textAt_len HFt.out 11
            unfold stOf ByteArray.size
            simpa using this
          have KV := Lib.hid fun (W : World) (h : LsRd W A1 (stOf fs).lines) => rvalid_any (stOf fs) A1 c1 W h (by omega) (by omega)
          clear hB5 hO5 hvl hvw
          cases hok2 : allOk fs with
          | false =>
            have HQ : Hid (canD l = (zeroSt, 40)) := Lib.hid (by unfold canD; rw [← HD.out]; simp only [ne_eq, not_true_eq_false, if_false, HF0.out]; rw [if_neg (fun h => by rw [hok2] at h; cases h.1)])
            clear hok2
            go_wp2_with (first
              | (with_reducible refine wpL_load_row rfl 77 (.tmp 4) rfl _ 77 _ 12 rfl hb2 st_wide (st12_size _ _ _) ?_)
              | (change wpList _ _ _ (⟨none, .store _ (.tmp 2) (.tmp 145), _, _, _, _⟩ :: _) _ _; refine wpL_store_row rfl 77 (.tmp 2) (.tmp 145) rfl w.heap.size 77 _ _ rfl rfl hb1 rfl (st12_one_ _ _ _) 12 st_wide rfl ?_))
            refine bodyPost_ret (v := .tuple #[.agg (stcells zeroSt none 0), .int .i64 40]) (res_row_t rfl _ w.heap.size 77 _ 12 _ rfl rfl (Blk.setRow_ hb1) st_wide rfl) rfl ?_
            rw [HQ.out]
            exact ⟨none, 0, rfl, exA, World.ownsRow_nil _ _ _ _⟩
          | true =>
            cases hv2 : validB (stOf fs) with
            | false =>
              have HQ : Hid (canD l = (zeroSt, 40)) := Lib.hid (by unfold canD; rw [← HD.out]; simp only [ne_eq, not_true_eq_false, if_false, HF0.out]; rw [if_neg (fun h => by rw [hv2] at h; cases h.2)])
              rw [hv2] at KV
              clear hok2 hv2
              go_wp2_with (first
                | (with_reducible refine wpL_load_row_w (by kernel_rfl) 77 (.tmp 9) rfl _ 77 _ 12 rfl HB5.out st_wide (st12_size _ _ _) ?_)
                | (go_at_call 114; (with_reducible refine (KV.out _ HO5.out.rd).mono ?_); rintro e w6 ⟨rfl, hx6⟩; have hb3 := BlkE hb1 hx6; have hb4 := BlkE hb2 hx6)
                | (with_reducible refine wpL_load_row rfl 77 (.tmp 4) rfl _ 77 _ 12 rfl hb4 st_wide (st12_size _ _ _) ?_)
                | (change wpList _ _ _ (⟨none, .store _ (.tmp 2) (.tmp 145), _, _, _, _⟩ :: _) _ _; refine wpL_store_row rfl 77 (.tmp 2) (.tmp 145) rfl w.heap.size 77 _ _ rfl rfl hb3 rfl (st12_one_ _ _ _) 12 st_wide rfl ?_))
              refine bodyPost_ret (v := .tuple #[.agg (stcells zeroSt none 0), .int .i64 40]) (res_row_t rfl _ w.heap.size 77 _ 12 _ rfl rfl (Blk.setRow_ hb3) st_wide rfl) rfl ?_
              rw [HQ.out]
              exact ⟨none, 0, rfl, exA, World.ownsRow_nil _ _ _ _⟩
            | true =>
              have HQ : Hid (canD l = (stOf fs, 0)) := Lib.hid (by unfold canD; rw [← HD.out]; simp only [ne_eq, not_true_eq_false, if_false, HF0.out]; rw [if_pos ⟨hok2, hv2⟩])
              rw [hv2] at KV
              clear hok2 hv2
              go_wp2_with (first
                | (with_reducible refine wpL_load_row_w (by kernel_rfl) 77 (.tmp 9) rfl _ 77 _ 12 rfl HB5.out st_wide (st12_size _ _ _) ?_)
                | (go_at_call 114; (with_reducible refine (KV.out _ HO5.out.rd).mono ?_); rintro e w6 ⟨rfl, hx6⟩; have hb3 := BlkE hb1 hx6; have HB6 := BlkE HB5.out hx6)
                | (with_reducible refine wpL_load_row rfl 77 (.tmp 9) rfl _ 77 _ 12 rfl HB6 st_wide (st12_size _ _ _) ?_)
                | (change wpList _ _ _ (⟨none, .store _ (.tmp 2) (.tmp 146), _, _, _, _⟩ :: _) _ _; refine wpL_store_row rfl 77 (.tmp 2) (.tmp 146) rfl w.heap.size 77 _ _ rfl rfl hb3 rfl (st12_one_ _ _ _) 12 st_wide rfl ?_))
              refine bodyPost_ret (v := .tuple #[.agg (stcells (stOf fs) A1 c1), .int .i64 0]) (res_row_t rfl _ w.heap.size 77 _ 12 _ rfl rfl (Blk.setRow_ hb3) st_wide rfl) rfl ?_
              rw [HQ.out]
              have hO6 : OwnLs w6 w1.heap.size A1 (stOf fs).lines c1 := own_ext hx6 HO5.out
              exact ⟨A1, c1, rfl, exA, own_base ((Turn.row (F := [w.heap.size]) (by simp)).own hO6 (fun r hr hc => blk_off hO6 hb3 (by decide) (by rw [← List.mem_singleton.1 hc]; exact hr))) hwW.size⟩
  · have HE := Lib.hid hE
    have HX : Hid (canD l = (zeroSt, E)) := Lib.hid (by unfold canD; rw [← hd]; simp [hE])
    have tE : ((E : Int) != 0) = true := by simp; exact hE
    clear hd hE
    go_enter Tryz.func85, Tryz.ntmps85
    go_wp2_with (first
      | (go_at_call 125; (with_reducible refine (KD.out _ (ExtA (ExtA (Ext.rfl' _)))).mono ?_); rintro e w1 ⟨Af, cf, hs, rfl, hx1, -, -⟩; have hb1 : Blk w1 w.heap.size 77 (stcells zeroSt none 0) := BlkE (BlkA (BlkN rfl)) hx1; have hb2 : Blk w1 (w.heap.size + 1) 77 (stcells zeroSt none 0) := BlkE (BlkN (by simp)) hx1)
      | (with_reducible refine wpL_load_row rfl 77 (.tmp 4) rfl _ 77 _ 12 rfl hb2 st_wide (st12_size _ _ _) ?_)
      | (change wpList _ _ _ (⟨none, .store _ (.tmp 2) (.tmp 26), _, _, _, _⟩ :: _) _ _; refine wpL_store_row rfl 77 (.tmp 2) (.tmp 26) rfl w.heap.size 77 _ _ rfl rfl hb1 rfl (st12_one_ _ _ _) 12 st_wide rfl ?_))
    refine bodyPost_ret (v := .tuple #[.agg (stcells zeroSt none 0), .int .i64 (E : Nat)]) (res_row_t rfl _ w.heap.size 77 _ 12 _ rfl rfl (Blk.setRow_ hb1) st_wide rfl) rfl ?_
    rw [HX.out]
    exact ⟨none, 0, rfl, exA, World.ownsRow_nil _ _ _ _⟩
end Go.Proofs.YtjajbbgebblalaaGreatDoor

namespace Go.Proofs.YtjajbbgebblalaaGreatDoor
open Go.RowKit
set_option linter.unusedVariables false
set_option linter.unusedSimpArgs false
end Go.Proofs.YtjajbbgebblalaaGreatDoor
