/-
  The walk of the law TlvReads.
-/
import Derived.Test.YtcekdfhbbfednaaTlvLawC
import Derived.Test.YtcekdfhbbfednaaPutO
import Derived.Test.YtcekdfhbbfednaaRdT
import Derived.Lib.Builder
namespace Go.Proofs.Ytcekdfhbbfednaa
open Go.RowKit
set_option linter.unusedVariables false
set_option linter.unusedSimpArgs false
open Go.Maps
set_option maxRecDepth 100000 in
set_option maxHeartbeats 8000000 in
theorem tlvReads_bad (A : Option Addr) (n c : Nat) (l : List UInt8) (A2 : Option Addr) (c2 : Nat) (scr : List HP) (w : World) (hr : Rd w A n (u8s l)) (hnc : n ≤ c) (hn : n ≤ 140737488351232) (he : (dec l).2.2 ≠ 0) :
    Calls Try.prog 11 #[.slice A n c, .slice A2 scr.length c2] w fun e w' => e = .returned (.bool true) ∧ Ext w w' := by
  have hl : l.length = n := by have := hr.1; rw [u8s_len] at this; exact this
  have KH := Lib.hid fun W => head_any W
  have KC := Lib.hid fun W (hx : Ext w W) => copy_any A n c l W (hr.ext hx) (by omega)
  have KD := Lib.hid fun W (hx : Ext w W) => rdec_any A n c l W (hr.ext hx) hnc (by simp only [maxLen]; omega)
  have KN : Hid (∀ W base A1 c1, W.ownsRow base 5 1 (.slice A1 l.length c1) l.length (u8s l) → Calls Try.prog 30 #[.slice A1 l.length c1] W fun e w' => e = .returned (.tuple #[.pointer none, .int .i64 ((dec l).2.2 : Nat)]) ∧ Ext W w') := Lib.hid fun W base A1 c1 ho =>
    (newReader_any A1 l.length c1 l W (rd_own ho) (own_max ho).1 (own_max ho).2).mono fun e w' ⟨h1, h2⟩ => by
      rcases h2 with ⟨_, h3⟩ | ⟨h3, _⟩
      · exact ⟨h3, h1⟩
      · exact absurd h3 he
  have k1 := Lib.hid fun W => rnum_nil W 1
  have k2 := Lib.hid fun W => rint_nil W 2
  have k3 := Lib.hid fun W => rtext_nil W 3
  have k4 := Lib.hid fun W => rest_nil W
  have k5 := Lib.hid fun W => rerr_nil W
  unfold NewB at KC
  unfold DecPost at KD
  have t0 : ((((dec l).2.2 : Nat) : Int) == 0) = false := by simp; exact he
  generalize (dec l).2.2 = E at *
  generalize (dec l).1 = fs at *
  generalize (dec l).2.1 = at_ at *
  clear hr hn hnc he hl
  go_enter Try.func11, Try.ntmps11
  go_wp2_with (first
    | (go_at_call 16; (with_reducible refine (KH.out _).mono ?_); rintro e w1 ⟨rfl, hx1⟩)
    | (go_at_call 19; (with_reducible refine (KC.out _ hx1).mono ?_); rintro e w2 ⟨A3, c3, rfl, hx2, ho2⟩; have O2 := Lib.hid ho2; clear ho2)
    | (go_at_call 30; (with_reducible refine (KN.out _ _ _ _ O2.out).mono ?_); rintro e w3 ⟨rfl, hx3⟩)
    | (go_at_call 20; (with_reducible refine (KD.out _ (hx1.tr (hx2.tr hx3))).mono ?_); rintro e w4 ⟨A4, c4, hs4, rfl, hx4, ho4, hm4⟩; clear ho4 hm4)
    | (go_at_call 31; (with_reducible refine (k1.out _).mono ?_); rintro e w5 ⟨rfl, hx5⟩)
    | (go_at_call 32; (with_reducible refine (k2.out _).mono ?_); rintro e w6 ⟨rfl, hx6⟩)
    | (go_at_call 33; (with_reducible refine (k3.out _).mono ?_); rintro e w7 ⟨rfl, hx7⟩)
    | (go_at_call 34; (with_reducible refine (k4.out _).mono ?_); rintro e w8 ⟨rfl, hx8⟩)
    | (go_at_call 35; (with_reducible refine (k5.out _).mono ?_); rintro e w9 ⟨rfl, hx9⟩))
  go_ret
  exact ⟨rfl, (by repeat (first | with_reducible exact Below.refl _ _ | with_reducible assumption | with_reducible refine ExtD ?_ | with_reducible refine ExtDN ?_ | with_reducible refine ExtA ?_ | (with_reducible refine ExtR ?_ ?_; (first | omega | (dsimp only; omega) | (simp; done) | (simp; omega))) | (with_reducible refine ExtS ?_ ?_; (first | omega | (dsimp only; omega) | (simp; done) | (simp; omega))) | with_reducible refine Ext.tr ?_ (by with_reducible assumption)))⟩
theorem rd_zero (w : World) (A : Option Addr) : Rd w A 0 (u8s []) := ⟨rfl, fun h => absurd h (by omega)⟩
theorem end_put (w : World) : RdN (w.alloc (.cells #[.int .i64 3, .int .i64 0, .int .i64 0, .slice none 0 0] 48)) 4 (some ⟨w.heap.size, 0, none⟩) 1 (ptCells [(⟨3, 0, 0, []⟩, none, 0)]) :=
  ⟨rfl, fun _ => (rd_new w #[.int .i64 3, .int .i64 0, .int .i64 0, .slice none 0 0] 48).2 (by simp)⟩
theorem none_put (w : World) (base g : Nat) (hg : w.heap.size = g) (hW : base ≤ w.heap.size) : (w.alloc (.cells #[] 48)).ownsRow base 48 4 (.slice (some ⟨g, 0, none⟩) 0 0) 0 (ptCells []) := by
  subst hg
  exact own_new w base #[] _ 0 hW (by decide) rfl
set_option maxRecDepth 100000 in
set_option maxHeartbeats 16000000 in
theorem tlvReads_ok (A : Option Addr) (n c : Nat) (l : List UInt8) (A2 : Option Addr) (c2 : Nat) (scr : List HP) (w : World) (hr : Rd w A n (u8s l)) (hnc : n ≤ c) (hn : n ≤ 140737488351232) (hp : PtsRd w A2 scr) (hn2 : scr.length * 48 ≤ 140737488351232) (he : (dec l).2.2 = 0) :
    Calls Try.prog 11 #[.slice A n c, .slice A2 scr.length c2] w fun e w' => e = .returned (.bool true) ∧ Ext w w' := by
  obtain rfl : n = l.length := by have := hr.1; rw [u8s_len] at this; exact this.symm
  have KH := Lib.hid fun W => head_any W
  have KC := Lib.hid fun W (hx : Ext w W) => copy_any A l.length c l W (hr.ext hx) (by omega)
  have KD := Lib.hid fun W (hx : Ext w W) => rdec_any A l.length c l W (hr.ext hx) hnc (by simp only [maxLen]; omega)
  have KN : Hid (∀ W base A1 c1, W.ownsRow base 5 1 (.slice A1 l.length c1) l.length (u8s l) → Calls Try.prog 30 #[.slice A1 l.length c1] W fun e w' => ∃ g b hs D, e = .returned (.tuple #[.pointer (some ⟨g, 0, none⟩), .int .i64 0]) ∧ Ext W w' ∧ hs.map (·.1) = (dec l).1 ∧ RdX w' W.heap.size g b hs 0 D) := Lib.hid fun W base A1 c1 ho =>
    (newReader_any A1 l.length c1 l W (rd_own ho) (own_max ho).1 (own_max ho).2).mono fun e w' ⟨h1, h2⟩ => by
      rcases h2 with ⟨h3, _⟩ | ⟨_, g, b, hs, D, h3, h4, h5⟩
      · exact absurd he h3
      · exact ⟨g, b, hs, D, h3, h1, h4, h5⟩
  unfold NewB at KC
  unfold DecPost at KD
  obtain ⟨_, _, hfw, _, _, _, hft, _⟩ := dec_inv he
  have hbd := faults_bound _ hfw hft
  have hri := (rise_of _ 0 hft).2
  have Hrd := Lib.hid hp.1
  have Hn := Lib.hid hn2
  have HZ := Lib.hid end_put
  have HE := Lib.hid fun W g h1 h2 => none_put W w.heap.size g h1 h2
  have HS : Hid (∀ h ∈ scr ++ [((⟨3, 0, 0, []⟩ : Pt), none, 0)], Rd w h.2.1 h.1.b.length (u8s h.1.b) ∧ h.1.wf) := Lib.hid fun h hh => by
    rcases List.mem_append.1 hh with hh | hh
    · exact hp.2 h hh
    · rw [List.mem_singleton.1 hh]
      exact ⟨Rd.nil_ _ _, ⟨by decide, by decide⟩, ⟨by decide, by decide⟩, ⟨by decide, by decide⟩, by decide⟩
  rw [he] at KD
  generalize (dec l).2.2 = E at *
  generalize (dec l).1 = fs at *
  generalize (dec l).2.1 = at_ at *
  have hfl : fs.length ≤ 31 := by omega
  have Hfw := Lib.hid hfw
  have Hri := Lib.hid hri
  have Hfl := Lib.hid hfl
  clear hr hnc he hft hbd hfw hri hp hn2 hfl
  go_enter Try.func11, Try.ntmps11
  go_wp2_with (first
    | (go_at_call 16; (with_reducible refine (KH.out _).mono ?_); rintro e w1 ⟨rfl, hx1⟩)
    | (go_at_call 19; (with_reducible refine (KC.out _ hx1).mono ?_); rintro e w2 ⟨A3, c3, rfl, hx2, ho2⟩; have O2 := Lib.hid ho2; clear ho2)
    | (go_at_call 30; (with_reducible refine (KN.out _ _ _ _ O2.out).mono ?_); rintro e w3 ⟨g, b, hs, D, rfl, hx3, hm3, hX3⟩; have M3 := Lib.hid hm3; have X3 := Lib.hid hX3; clear hm3 hX3)
    | (go_at_call 20; (with_reducible refine (KD.out _ (hx1.tr (hx2.tr hx3))).mono ?_); rintro e w4 ⟨A4, c4, hs4, rfl, hx4, ho4, hm4⟩; have O4 := Lib.hid ho4; have M4 := Lib.hid hm4; clear ho4 hm4))
  have hA3 : Hid (∀ r ∈ blkOf A3, w.heap.size ≤ r ∧ r < w2.heap.size) := Lib.hid fun r hr => by
    have := O2.out.lt r (own_blkOf hr)
    have := hx1.size
    omega
  have B4 := Lib.hid (bi_of (own_ext (hx3.tr hx4) O2.out))
  have hw24 : w2.heap.size ≤ w3.heap.size := hx3.size
  have hl62 : l.length ≤ 140737488351232 := by omega
  go_loopw [78] (fun d wy => XorR w4 w1.heap.size A3 l.length c3 d wy) (fun d _ => l.length - (intOf d).toNat)
  case atStart => exact ⟨0, rfl, by omega, Turn.refl _ _, B4.out⟩
  case round =>
    obtain ⟨j, rfl, hj, hty, hby⟩ := hrel
    by_cases hjl : j < l.length
    · obtain ⟨bk, q, rfl, _, hcj, hfj, hset⟩ := hby.at hjl
      have Hset := Lib.hid hset
      clear hset
      go_wp2_with fail
      refine And.intro ⟨j + 1, by go_num, by omega, hty.tr (Turn.cell (by simp [blkOf])), Hset.out _⟩ ?_
      simp [intOf]; omega
    · obtain rfl : j = l.length := by omega
      have X5 := Lib.hid ((X3.out.ext hx4).low hty (fun r hr => (hA3.out r hr).2))
      have O5 := Lib.hid (O4.out.low hty (fun r hr => by have := (hA3.out r hr).2; omega))
      have HX5 := Lib.hid (hty.ext (hx1.tr (hx2.tr (hx3.tr hx4))) (fun r hr => (hA3.out r hr).1))
      have hw2 : w.heap.size ≤ w2.heap.size := Nat.le_trans hx1.size hx2.size
      clear X3 O4 B4 hty hby O2 hA3 hj hjl hx1 hx2 hx3 hx4
      rename World => w5
      go_wp2_with (first
        | (change wpList _ _ _ (⟨some 87, _, _, _, _, _⟩ :: _) _ _; refine wpP_append (l := []) rfl (.tmp 85) (.tmp 86) rfl w.heap.size (Nat.le_trans HX5.out.size (Below.size (B := w5.heap.size) (w := w5) (by repeat (first | with_reducible exact Below.refl _ _ | with_reducible assumption | with_reducible refine ExtD ?_ | with_reducible refine ExtDN ?_ | with_reducible refine ExtA ?_ | (with_reducible refine ExtR ?_ ?_; (first | omega | (dsimp only; omega) | (simp; done) | (simp; omega))) | (with_reducible refine ExtS ?_ ?_; (first | omega | (dsimp only; omega) | (simp; done) | (simp; omega))) | with_reducible refine Ext.tr ?_ (by with_reducible assumption))))) rfl (HE.out _ _ (by simp) HX5.out.size) rfl (Hrd.out.ext (HX5.out.tr (ExtA (Ext.rfl' w5)))) (by have := Hn.out; simp; omega) ?_; intro A6 n6 c6 w6 hn6 ho6 ht6 hb6; have O6 := Lib.hid ho6; clear ho6; have hz6 : w.heap.size ≤ w6.heap.size := Nat.le_trans (Nat.le_trans HX5.out.size (Below.size (B := w5.heap.size) (w := w5) (by repeat (first | with_reducible exact Below.refl _ _ | with_reducible assumption | with_reducible refine ExtD ?_ | with_reducible refine ExtDN ?_ | with_reducible refine ExtA ?_ | (with_reducible refine ExtR ?_ ?_; (first | omega | (dsimp only; omega) | (simp; done) | (simp; omega))) | (with_reducible refine ExtS ?_ ?_; (first | omega | (dsimp only; omega) | (simp; done) | (simp; omega))) | with_reducible refine Ext.tr ?_ (by with_reducible assumption))))) ht6.size)
        | (change wpList _ _ _ (⟨some 90, _, _, _, _, _⟩ :: _) _ _; refine wpP_append rfl (.tmp 87) (.tmp 89) rfl w.heap.size (Nat.le_trans hz6 (by simp)) rfl (O6.out.alloc _) rfl (HZ.out _) (by have := Hn.out; simp; omega) ?_; intro Ap np cp w7 hn7 ho7 ht7 hb7; have O7 := Lib.hid ho7; clear ho7))
      have hXX : Ext w5 w7 := (ht7.ext ((ht6.ext (ExtA (Ext.rfl' w5)) (fun r hr => by simp [blkOf] at hr; omega)).tr (ExtA (Ext.rfl' w6))) (fun r hr => by
        rcases hb6 r hr with h | h
        · simp [blkOf] at h; omega
        · have : (w5.alloc (.cells #[] 48)).heap.size = w5.heap.size + 1 := by simp
          omega))
      have X7 := Lib.hid (((X5.out.ext hXX).mono hw2))
      have O8 := Lib.hid ((O5.out.ext' hXX).mono (Nat.le_trans hw2 hw24))
      have HX7 := Lib.hid (HX5.out.tr hXX)
      have hnp : np = scr.length + 1 := by rw [hn7.out]; simp
      subst hnp
      have HLS : Hid ((scr ++ [((⟨3, 0, 0, []⟩ : Pt), (none : Option Addr), 0)]).length = scr.length + 1) := Lib.hid (by simp)
      have O : w7.ownsRow w.heap.size 48 4 (.slice Ap (scr.length + 1) cp) (scr.length + 1) (ptCells (scr ++ [((⟨3, 0, 0, []⟩ : Pt), (none : Option Addr), 0)])) := O7.out
      clear hn6 hn7 ht6 hb6 ht7 hb7 O6 O7 hz6 hXX X5 O5 HX5 hw2 hw24
      generalize scr ++ [((⟨3, 0, 0, []⟩ : Pt), (none : Option Addr), 0)] = S at *
      have hnS : (scr.length + 1) * 48 ≤ 140737488355328 := by have := Hn.out; omega
      have hSl := HLS.out
      rw [← hSl] at O hnS ⊢
      clear hSl HLS
      have HnS := Lib.hid hnS
      have HO := Lib.hid O
      clear hnS O
      have hl4 : hs4.length = fs.length := by rw [← M4.out]; simp
      have hl3 : hs.length = fs.length := by rw [← M3.out]; simp
      rw [← hl4] at O8 ⊢
      have HL4 := Lib.hid hl4
      have HL3 := Lib.hid hl3
      clear hl4 hl3
      go_loopw [8, 12, 92] (fun d8 d12 d92 wr => RdR w g b S Ap cp d8 d12 d92 wr) (fun _ _ d92 _ => S.length - (intOf d92).toNat)
      case atStart => exact ⟨0, A4, c4, hs4, false, hs, D, rfl, by omega, rfl, rfl, HX7.out, O8.out, X7.out, by rw [M4.out, M3.out], by have := Hri.out; rw [← M3.out, List.map_map] at this; exact this, by rw [M3.out]; exact Hfw.out, by rw [HL3.out]; exact Hfl.out, HO.out⟩
      case round =>
        clear X7 O8 HX7 HO M3 M4 HL3 HL4 Hri Hfw Hfl
        obtain ⟨k, A8, c8, lf, form, hr, D8, rfl, hk, rfl, rfl, hX, hO, hR, hmm, hri, hfw, hl31, hOp⟩ := hrel
        by_cases hlt : k < S.length
        · obtain ⟨bp, rfl, hbW, hcl⟩ := own_row_at hOp (by omega)
          obtain ⟨⟨⟨pk, tag, v, pl⟩, Bp, cb⟩, hg⟩ : ∃ h, S[k]? = some h := ⟨_, List.getElem?_eq_getElem hlt⟩
          obtain ⟨_, hwk, hwt, hwv, hl8⟩ := HS.out _ (List.mem_of_getElem? hg)
          dsimp only at hwk hwt hwv hl8
          have e0 : wr.cell? ⟨bp, k * 4, none⟩ = some (.int .i64 pk) := (hcl (k * 4 + 0) _ (by rw [ptCells_at S k 0 _ hg (by omega)]; rfl)).1
          have e1 : wr.cell? ⟨bp, k * 4 + 1, none⟩ = some (.int .i64 tag) := (hcl (k * 4 + 1) _ (by rw [ptCells_at S k 1 _ hg (by omega)]; rfl)).1
          have e2 : wr.cell? ⟨bp, k * 4 + 2, none⟩ = some (.int .i64 v) := (hcl (k * 4 + 2) _ (by rw [ptCells_at S k 2 _ hg (by omega)]; rfl)).1
          have e3 : wr.cell? ⟨bp, k * 4 + 3, none⟩ = some (.slice Bp pl.length cb) := (hcl (k * 4 + 3) _ (by rw [ptCells_at S k 3 _ hg (by omega)]; rfl)).1
          have hk62 : k ≤ 2932031007403 := by have := HnS.out; omega
          have hIt : IsI tag := hwt
          have hlf : lf.length ≤ 31 := by have := congrArg List.length hmm; simp at this; omega
          have hbR : bp ∉ [g, b] := fun hc => by
            rcases List.mem_cons.1 hc with rfl | hc
            · exact blk_off hOp hR.blk (by decide) rfl
            · rw [List.mem_singleton] at hc
              subst hc
              exact own_notmap hR.own hOp rfl
          have HX := Lib.hid hX
          have HO := Lib.hid hO
          have HR := Lib.hid hR
          have HM := Lib.hid hmm
          have HI := Lib.hid hri
          have HW := Lib.hid hfw
          have HOp := Lib.hid hOp
          have HbR := Lib.hid hbR
          clear hX hO hR hmm hri hfw hOp hbR hcl hg hwk hwt hwv hl8
          have HgB : Hid (wr.heap.size ∉ [g, b]) := Lib.hid fun hc => by
            have h1 := HR.out.blk.lt
            have h2 : b < wr.heap.size := by obtain ⟨q, _, ho⟩ := HR.out.own; exact ho.lt
            rcases List.mem_cons.1 hc with hc | hc
            · omega
            · rw [List.mem_singleton] at hc; omega
          by_cases hkd : pk = 0 ∨ pk = 1 ∨ pk = 2
          · cases hf : findH lf tag with
            | none =>
              have hf2 : findH hr tag = none := by have := find_both HM.out tag; rw [hf] at this; simpa using this.symm
              have KF : Hid (∀ W, Ext wr W → Calls Try.prog 36 #[.slice A8 lf.length c8, .int .i64 tag] W fun e w' => e = .returned (.tuple #[.agg #[.int .i64 0, .bool false, .int .u64 0, .slice none 0 0], .bool false]) ∧ Ext W w') := Lib.hid fun W hx => by
                have := rfind_any W w.heap.size A8 c8 lf tag (HO.out.ext' hx) hlf
                unfold FindPost foundH at this
                rw [hf] at this
                exact this
              have KNum : Hid (∀ W, Ext wr W → Calls Try.prog 31 #[.pointer (some ⟨g, 0, none⟩), .int .i64 tag] W fun e w' => e = .returned (.int .u64 0) ∧ Turn [g, b] W w' ∧ ∃ D', RdX w' w.heap.size g b hr (if form = true then 33 else 0) D') := Lib.hid fun W hx => by
                have := rnum_any W w.heap.size g b hr _ D8 tag (HR.out.ext hx) hIt
                rw [(take_none false (if form = true then 33 else 0) hf2).1, (take_none false (if form = true then 33 else 0) hf2).2, (strike_none hf2).1] at this
                exact this
              have KInt : Hid (∀ W, Ext wr W → Calls Try.prog 32 #[.pointer (some ⟨g, 0, none⟩), .int .i64 tag] W fun e w' => e = .returned (.int .i64 0) ∧ Turn [g, b] W w' ∧ ∃ D', RdX w' w.heap.size g b hr (if form = true then 33 else 0) D') := Lib.hid fun W hx => by
                have := rint_any W w.heap.size g b hr _ D8 tag (HR.out.ext hx) hIt (by rw [(take_none false 0 hf2).1]; decide)
                rw [(take_none false (if form = true then 33 else 0) hf2).1, (take_none false (if form = true then 33 else 0) hf2).2, (strike_none hf2).1] at this
                exact this
              have KTxt : Hid (∀ W, Ext wr W → Calls Try.prog 33 #[.pointer (some ⟨g, 0, none⟩), .int .i64 tag] W fun e w' => e = .returned (.slice none 0 0) ∧ Turn [g, b] W w' ∧ (∃ D', RdX w' w.heap.size g b hr (if form = true then 33 else 0) D') ∧ True) := Lib.hid fun W hx => by
                have := rtext_any W w.heap.size g b hr _ D8 tag (HR.out.ext hx) hIt
                rw [(take_none true (if form = true then 33 else 0) hf2).1, (take_none true (if form = true then 33 else 0) hf2).2, (strike_none hf2).1] at this
                exact this.mono fun e w' ⟨h1, h2, h3⟩ => ⟨h1, h2, h3, trivial⟩
              have KZag : Hid (∀ W, Calls Try.prog 37 #[.int .u64 0] W fun e w' => e = .returned (.int .i64 0) ∧ Ext W w') := Lib.hid fun W => rzag_any 0 (by decide) W
              have KSam : Hid (∀ (W : World) (A1 A2 : Option Addr) (c1 c2 : Nat), Turn [g, b] wr W → True → Calls Try.prog 15 #[.slice A1 0 c1, .slice A2 0 c2] W fun e w' => e = .returned (.bool true) ∧ Ext W w') := Lib.hid fun W A1 A2 c1 c2 _ _ => same_yes A1 A2 0 c1 0 c2 [] W (rd_zero _ _) (rd_zero _ _) (by decide)
              rcases hkd with rfl | rfl | rfl
              · cases form
                all_goals
                  as_aux_lemma =>
                    go_wp2_with (first
  | (go_at_call 36; (with_reducible refine (KF.out _ (by repeat (first | with_reducible exact Below.refl _ _ | with_reducible assumption | with_reducible refine ExtD ?_ | with_reducible refine ExtDN ?_ | with_reducible refine ExtA ?_ | (with_reducible refine ExtR ?_ ?_; (first | omega | (dsimp only; omega) | (simp; done) | (simp; omega))) | (with_reducible refine ExtS ?_ ?_; (first | omega | (dsimp only; omega) | (simp; done) | (simp; omega))) | with_reducible refine Ext.tr ?_ (by with_reducible assumption)))).mono ?_); rintro e w6 ⟨rfl, hx6⟩; have P14 : Blk w6 wr.heap.size 48 #[.int .i64 0, .int .i64 tag, .int .i64 v, .slice Bp pl.length cb] := BlkE (BlkN rfl) hx6; have a0 : ∀ ob, (w6.alloc ob).cell? ⟨wr.heap.size, 0, none⟩ = some (.int .i64 0) := fun ob => (BlkA (o := ob) P14).cell 0; have a1 : ∀ ob, (w6.alloc ob).cell? ⟨wr.heap.size, 1, none⟩ = some (.int .i64 tag) := fun ob => (BlkA (o := ob) P14).cell 1; have a2 : ∀ ob ob2, ((w6.alloc ob).alloc ob2).cell? ⟨wr.heap.size, 1, none⟩ = some (.int .i64 tag) := fun ob ob2 => (BlkA (o := ob2) (BlkA (o := ob) P14)).cell 1; have hz6 : wr.heap.size < w6.heap.size := P14.lt)
  | (go_at_call 31; (with_reducible refine (KNum.out _ (by repeat (first | with_reducible exact Below.refl _ _ | with_reducible assumption | with_reducible refine ExtD ?_ | with_reducible refine ExtDN ?_ | with_reducible refine ExtA ?_ | (with_reducible refine ExtR ?_ ?_; (first | omega | (dsimp only; omega) | (simp; done) | (simp; omega))) | (with_reducible refine ExtS ?_ ?_; (first | omega | (dsimp only; omega) | (simp; done) | (simp; omega))) | with_reducible refine Ext.tr ?_ (by with_reducible assumption)))).mono ?_); rintro e w9 ⟨rfl, ht9, hd9⟩; have Q14 := ht9.blk (BlkA (o := .cells #[.int .i64 0, .bool false, .int .u64 0, .slice none 0 0] 29) P14) HgB.out; have b0 := Q14.cell 0; have b1 := Q14.cell 1; have HD9 := Lib.hid hd9; have x0 : Ext wr (w6.alloc (.cells #[.int .i64 0, .bool false, .int .u64 0, .slice none 0 0] 29)) := (by repeat (first | with_reducible exact Below.refl _ _ | with_reducible assumption | with_reducible refine ExtD ?_ | with_reducible refine ExtDN ?_ | with_reducible refine ExtA ?_ | (with_reducible refine ExtR ?_ ?_; (first | omega | (dsimp only; omega) | (simp; done) | (simp; omega))) | (with_reducible refine ExtS ?_ ?_; (first | omega | (dsimp only; omega) | (simp; done) | (simp; omega))) | with_reducible refine Ext.tr ?_ (by with_reducible assumption))); have HT9 := Lib.hid (Turn.tr (x0.turn _) ht9); clear hd9 ht9 x0)
  | (go_at_call 32; (with_reducible refine (KInt.out _ (by repeat (first | with_reducible exact Below.refl _ _ | with_reducible assumption | with_reducible refine ExtD ?_ | with_reducible refine ExtDN ?_ | with_reducible refine ExtA ?_ | (with_reducible refine ExtR ?_ ?_; (first | omega | (dsimp only; omega) | (simp; done) | (simp; omega))) | (with_reducible refine ExtS ?_ ?_; (first | omega | (dsimp only; omega) | (simp; done) | (simp; omega))) | with_reducible refine Ext.tr ?_ (by with_reducible assumption)))).mono ?_); rintro e w9 ⟨rfl, ht9, hd9⟩; have Q14 := ht9.blk (BlkA (o := .cells #[.int .i64 0, .bool false, .int .u64 0, .slice none 0 0] 29) P14) HgB.out; have b0 := Q14.cell 0; have b1 := Q14.cell 1; have HD9 := Lib.hid hd9; have x0 : Ext wr (w6.alloc (.cells #[.int .i64 0, .bool false, .int .u64 0, .slice none 0 0] 29)) := (by repeat (first | with_reducible exact Below.refl _ _ | with_reducible assumption | with_reducible refine ExtD ?_ | with_reducible refine ExtDN ?_ | with_reducible refine ExtA ?_ | (with_reducible refine ExtR ?_ ?_; (first | omega | (dsimp only; omega) | (simp; done) | (simp; omega))) | (with_reducible refine ExtS ?_ ?_; (first | omega | (dsimp only; omega) | (simp; done) | (simp; omega))) | with_reducible refine Ext.tr ?_ (by with_reducible assumption))); have HT9 := Lib.hid (Turn.tr (x0.turn _) ht9); clear hd9 ht9 x0)
  | (go_at_call 37; (with_reducible refine (KZag.out _).mono ?_); rintro e w10 ⟨rfl, hx10⟩; have b1 := (BlkE Q14 hx10).cell 1)
  | (go_at_call 33; (with_reducible refine (KTxt.out _ (by repeat (first | with_reducible exact Below.refl _ _ | with_reducible assumption | with_reducible refine ExtD ?_ | with_reducible refine ExtDN ?_ | with_reducible refine ExtA ?_ | (with_reducible refine ExtR ?_ ?_; (first | omega | (dsimp only; omega) | (simp; done) | (simp; omega))) | (with_reducible refine ExtS ?_ ?_; (first | omega | (dsimp only; omega) | (simp; done) | (simp; omega))) | with_reducible refine Ext.tr ?_ (by with_reducible assumption)))).mono ?_); rintro e w9 ⟨rfl, ht9, hd9, hr9⟩; have Q14 := ht9.blk (BlkA (o := .cells #[] 5) (BlkA (o := .cells #[.int .i64 0, .bool false, .int .u64 0, .slice none 0 0] 29) P14)) HgB.out; have b1 := Q14.cell 1; have HD9 := Lib.hid hd9; have HR9 := Lib.hid hr9; have x0 : Ext wr ((w6.alloc (.cells #[.int .i64 0, .bool false, .int .u64 0, .slice none 0 0] 29)).alloc (.cells #[] 5)) := (by repeat (first | with_reducible exact Below.refl _ _ | with_reducible assumption | with_reducible refine ExtD ?_ | with_reducible refine ExtDN ?_ | with_reducible refine ExtA ?_ | (with_reducible refine ExtR ?_ ?_; (first | omega | (dsimp only; omega) | (simp; done) | (simp; omega))) | (with_reducible refine ExtS ?_ ?_; (first | omega | (dsimp only; omega) | (simp; done) | (simp; omega))) | with_reducible refine Ext.tr ?_ (by with_reducible assumption))); have HT9 := Lib.hid (Turn.tr (x0.turn _) ht9); clear hd9 ht9 hr9 x0)
  | (go_at_call 15; (first | (with_reducible refine (KSam.out _ _ _ _ _ HT9.out HR9.out).mono ?_) | (with_reducible refine (KSam.out _ HT9.out HR9.out).mono ?_)); rintro e w10 ⟨rfl, hx10⟩; have b1 := (BlkE Q14 hx10).cell 1))
                    have xz : Ext w9 w9 := (by repeat (first | with_reducible exact Below.refl _ _ | with_reducible assumption | with_reducible refine ExtD ?_ | with_reducible refine ExtDN ?_ | with_reducible refine ExtA ?_ | (with_reducible refine ExtR ?_ ?_; (first | omega | (dsimp only; omega) | (simp; done) | (simp; omega))) | (with_reducible refine ExtS ?_ ?_; (first | omega | (dsimp only; omega) | (simp; done) | (simp; omega))) | with_reducible refine Ext.tr ?_ (by with_reducible assumption)))
                    have T := HT9.out.tr (xz.turn [g, b])
                    obtain ⟨D9, hD9⟩ := HD9.out
                    refine And.intro ⟨k + 1, A8, c8, lf, _, hr, D9, by go_num, by omega, rfl, rfl, T.ext HX.out (fun r hr => by
  rcases List.mem_cons.1 hr with rfl | hr
  · exact HR.out.lo.1
  · rw [List.mem_singleton.1 hr]; exact HR.out.lo.2), HO.out.turnR HR.out T, hD9.ext xz, HM.out, HI.out, HW.out, hl31, T.own HOp.out (fun r hr hc => HbR.out (by simp [Value.ownBlock] at hr; rw [hr]; exact hc))⟩ ?_
                    simp [intOf]; omega
              · cases form
                all_goals
                  as_aux_lemma =>
                    go_wp2_with (first
  | (go_at_call 36; (with_reducible refine (KF.out _ (by repeat (first | with_reducible exact Below.refl _ _ | with_reducible assumption | with_reducible refine ExtD ?_ | with_reducible refine ExtDN ?_ | with_reducible refine ExtA ?_ | (with_reducible refine ExtR ?_ ?_; (first | omega | (dsimp only; omega) | (simp; done) | (simp; omega))) | (with_reducible refine ExtS ?_ ?_; (first | omega | (dsimp only; omega) | (simp; done) | (simp; omega))) | with_reducible refine Ext.tr ?_ (by with_reducible assumption)))).mono ?_); rintro e w6 ⟨rfl, hx6⟩; have P14 : Blk w6 wr.heap.size 48 #[.int .i64 1, .int .i64 tag, .int .i64 v, .slice Bp pl.length cb] := BlkE (BlkN rfl) hx6; have a0 : ∀ ob, (w6.alloc ob).cell? ⟨wr.heap.size, 0, none⟩ = some (.int .i64 1) := fun ob => (BlkA (o := ob) P14).cell 0; have a1 : ∀ ob, (w6.alloc ob).cell? ⟨wr.heap.size, 1, none⟩ = some (.int .i64 tag) := fun ob => (BlkA (o := ob) P14).cell 1; have a2 : ∀ ob ob2, ((w6.alloc ob).alloc ob2).cell? ⟨wr.heap.size, 1, none⟩ = some (.int .i64 tag) := fun ob ob2 => (BlkA (o := ob2) (BlkA (o := ob) P14)).cell 1; have hz6 : wr.heap.size < w6.heap.size := P14.lt)
  | (go_at_call 31; (with_reducible refine (KNum.out _ (by repeat (first | with_reducible exact Below.refl _ _ | with_reducible assumption | with_reducible refine ExtD ?_ | with_reducible refine ExtDN ?_ | with_reducible refine ExtA ?_ | (with_reducible refine ExtR ?_ ?_; (first | omega | (dsimp only; omega) | (simp; done) | (simp; omega))) | (with_reducible refine ExtS ?_ ?_; (first | omega | (dsimp only; omega) | (simp; done) | (simp; omega))) | with_reducible refine Ext.tr ?_ (by with_reducible assumption)))).mono ?_); rintro e w9 ⟨rfl, ht9, hd9⟩; have Q14 := ht9.blk (BlkA (o := .cells #[.int .i64 0, .bool false, .int .u64 0, .slice none 0 0] 29) P14) HgB.out; have b0 := Q14.cell 0; have b1 := Q14.cell 1; have HD9 := Lib.hid hd9; have x0 : Ext wr (w6.alloc (.cells #[.int .i64 0, .bool false, .int .u64 0, .slice none 0 0] 29)) := (by repeat (first | with_reducible exact Below.refl _ _ | with_reducible assumption | with_reducible refine ExtD ?_ | with_reducible refine ExtDN ?_ | with_reducible refine ExtA ?_ | (with_reducible refine ExtR ?_ ?_; (first | omega | (dsimp only; omega) | (simp; done) | (simp; omega))) | (with_reducible refine ExtS ?_ ?_; (first | omega | (dsimp only; omega) | (simp; done) | (simp; omega))) | with_reducible refine Ext.tr ?_ (by with_reducible assumption))); have HT9 := Lib.hid (Turn.tr (x0.turn _) ht9); clear hd9 ht9 x0)
  | (go_at_call 32; (with_reducible refine (KInt.out _ (by repeat (first | with_reducible exact Below.refl _ _ | with_reducible assumption | with_reducible refine ExtD ?_ | with_reducible refine ExtDN ?_ | with_reducible refine ExtA ?_ | (with_reducible refine ExtR ?_ ?_; (first | omega | (dsimp only; omega) | (simp; done) | (simp; omega))) | (with_reducible refine ExtS ?_ ?_; (first | omega | (dsimp only; omega) | (simp; done) | (simp; omega))) | with_reducible refine Ext.tr ?_ (by with_reducible assumption)))).mono ?_); rintro e w9 ⟨rfl, ht9, hd9⟩; have Q14 := ht9.blk (BlkA (o := .cells #[.int .i64 0, .bool false, .int .u64 0, .slice none 0 0] 29) P14) HgB.out; have b0 := Q14.cell 0; have b1 := Q14.cell 1; have HD9 := Lib.hid hd9; have x0 : Ext wr (w6.alloc (.cells #[.int .i64 0, .bool false, .int .u64 0, .slice none 0 0] 29)) := (by repeat (first | with_reducible exact Below.refl _ _ | with_reducible assumption | with_reducible refine ExtD ?_ | with_reducible refine ExtDN ?_ | with_reducible refine ExtA ?_ | (with_reducible refine ExtR ?_ ?_; (first | omega | (dsimp only; omega) | (simp; done) | (simp; omega))) | (with_reducible refine ExtS ?_ ?_; (first | omega | (dsimp only; omega) | (simp; done) | (simp; omega))) | with_reducible refine Ext.tr ?_ (by with_reducible assumption))); have HT9 := Lib.hid (Turn.tr (x0.turn _) ht9); clear hd9 ht9 x0)
  | (go_at_call 37; (with_reducible refine (KZag.out _).mono ?_); rintro e w10 ⟨rfl, hx10⟩; have b1 := (BlkE Q14 hx10).cell 1)
  | (go_at_call 33; (with_reducible refine (KTxt.out _ (by repeat (first | with_reducible exact Below.refl _ _ | with_reducible assumption | with_reducible refine ExtD ?_ | with_reducible refine ExtDN ?_ | with_reducible refine ExtA ?_ | (with_reducible refine ExtR ?_ ?_; (first | omega | (dsimp only; omega) | (simp; done) | (simp; omega))) | (with_reducible refine ExtS ?_ ?_; (first | omega | (dsimp only; omega) | (simp; done) | (simp; omega))) | with_reducible refine Ext.tr ?_ (by with_reducible assumption)))).mono ?_); rintro e w9 ⟨rfl, ht9, hd9, hr9⟩; have Q14 := ht9.blk (BlkA (o := .cells #[] 5) (BlkA (o := .cells #[.int .i64 0, .bool false, .int .u64 0, .slice none 0 0] 29) P14)) HgB.out; have b1 := Q14.cell 1; have HD9 := Lib.hid hd9; have HR9 := Lib.hid hr9; have x0 : Ext wr ((w6.alloc (.cells #[.int .i64 0, .bool false, .int .u64 0, .slice none 0 0] 29)).alloc (.cells #[] 5)) := (by repeat (first | with_reducible exact Below.refl _ _ | with_reducible assumption | with_reducible refine ExtD ?_ | with_reducible refine ExtDN ?_ | with_reducible refine ExtA ?_ | (with_reducible refine ExtR ?_ ?_; (first | omega | (dsimp only; omega) | (simp; done) | (simp; omega))) | (with_reducible refine ExtS ?_ ?_; (first | omega | (dsimp only; omega) | (simp; done) | (simp; omega))) | with_reducible refine Ext.tr ?_ (by with_reducible assumption))); have HT9 := Lib.hid (Turn.tr (x0.turn _) ht9); clear hd9 ht9 hr9 x0)
  | (go_at_call 15; (first | (with_reducible refine (KSam.out _ _ _ _ _ HT9.out HR9.out).mono ?_) | (with_reducible refine (KSam.out _ HT9.out HR9.out).mono ?_)); rintro e w10 ⟨rfl, hx10⟩; have b1 := (BlkE Q14 hx10).cell 1))
                    have xz : Ext w9 w10 := (by repeat (first | with_reducible exact Below.refl _ _ | with_reducible assumption | with_reducible refine ExtD ?_ | with_reducible refine ExtDN ?_ | with_reducible refine ExtA ?_ | (with_reducible refine ExtR ?_ ?_; (first | omega | (dsimp only; omega) | (simp; done) | (simp; omega))) | (with_reducible refine ExtS ?_ ?_; (first | omega | (dsimp only; omega) | (simp; done) | (simp; omega))) | with_reducible refine Ext.tr ?_ (by with_reducible assumption)))
                    have T := HT9.out.tr (xz.turn [g, b])
                    obtain ⟨D9, hD9⟩ := HD9.out
                    refine And.intro ⟨k + 1, A8, c8, lf, _, hr, D9, by go_num, by omega, rfl, rfl, T.ext HX.out (fun r hr => by
  rcases List.mem_cons.1 hr with rfl | hr
  · exact HR.out.lo.1
  · rw [List.mem_singleton.1 hr]; exact HR.out.lo.2), HO.out.turnR HR.out T, hD9.ext xz, HM.out, HI.out, HW.out, hl31, T.own HOp.out (fun r hr hc => HbR.out (by simp [Value.ownBlock] at hr; rw [hr]; exact hc))⟩ ?_
                    simp [intOf]; omega
              · cases form
                all_goals
                  as_aux_lemma =>
                    go_wp2_with (first
  | (go_at_call 36; (with_reducible refine (KF.out _ (by repeat (first | with_reducible exact Below.refl _ _ | with_reducible assumption | with_reducible refine ExtD ?_ | with_reducible refine ExtDN ?_ | with_reducible refine ExtA ?_ | (with_reducible refine ExtR ?_ ?_; (first | omega | (dsimp only; omega) | (simp; done) | (simp; omega))) | (with_reducible refine ExtS ?_ ?_; (first | omega | (dsimp only; omega) | (simp; done) | (simp; omega))) | with_reducible refine Ext.tr ?_ (by with_reducible assumption)))).mono ?_); rintro e w6 ⟨rfl, hx6⟩; have P14 : Blk w6 wr.heap.size 48 #[.int .i64 2, .int .i64 tag, .int .i64 v, .slice Bp pl.length cb] := BlkE (BlkN rfl) hx6; have a0 : ∀ ob, (w6.alloc ob).cell? ⟨wr.heap.size, 0, none⟩ = some (.int .i64 2) := fun ob => (BlkA (o := ob) P14).cell 0; have a1 : ∀ ob, (w6.alloc ob).cell? ⟨wr.heap.size, 1, none⟩ = some (.int .i64 tag) := fun ob => (BlkA (o := ob) P14).cell 1; have a2 : ∀ ob ob2, ((w6.alloc ob).alloc ob2).cell? ⟨wr.heap.size, 1, none⟩ = some (.int .i64 tag) := fun ob ob2 => (BlkA (o := ob2) (BlkA (o := ob) P14)).cell 1; have hz6 : wr.heap.size < w6.heap.size := P14.lt)
  | (go_at_call 31; (with_reducible refine (KNum.out _ (by repeat (first | with_reducible exact Below.refl _ _ | with_reducible assumption | with_reducible refine ExtD ?_ | with_reducible refine ExtDN ?_ | with_reducible refine ExtA ?_ | (with_reducible refine ExtR ?_ ?_; (first | omega | (dsimp only; omega) | (simp; done) | (simp; omega))) | (with_reducible refine ExtS ?_ ?_; (first | omega | (dsimp only; omega) | (simp; done) | (simp; omega))) | with_reducible refine Ext.tr ?_ (by with_reducible assumption)))).mono ?_); rintro e w9 ⟨rfl, ht9, hd9⟩; have Q14 := ht9.blk (BlkA (o := .cells #[.int .i64 0, .bool false, .int .u64 0, .slice none 0 0] 29) P14) HgB.out; have b0 := Q14.cell 0; have b1 := Q14.cell 1; have HD9 := Lib.hid hd9; have x0 : Ext wr (w6.alloc (.cells #[.int .i64 0, .bool false, .int .u64 0, .slice none 0 0] 29)) := (by repeat (first | with_reducible exact Below.refl _ _ | with_reducible assumption | with_reducible refine ExtD ?_ | with_reducible refine ExtDN ?_ | with_reducible refine ExtA ?_ | (with_reducible refine ExtR ?_ ?_; (first | omega | (dsimp only; omega) | (simp; done) | (simp; omega))) | (with_reducible refine ExtS ?_ ?_; (first | omega | (dsimp only; omega) | (simp; done) | (simp; omega))) | with_reducible refine Ext.tr ?_ (by with_reducible assumption))); have HT9 := Lib.hid (Turn.tr (x0.turn _) ht9); clear hd9 ht9 x0)
  | (go_at_call 32; (with_reducible refine (KInt.out _ (by repeat (first | with_reducible exact Below.refl _ _ | with_reducible assumption | with_reducible refine ExtD ?_ | with_reducible refine ExtDN ?_ | with_reducible refine ExtA ?_ | (with_reducible refine ExtR ?_ ?_; (first | omega | (dsimp only; omega) | (simp; done) | (simp; omega))) | (with_reducible refine ExtS ?_ ?_; (first | omega | (dsimp only; omega) | (simp; done) | (simp; omega))) | with_reducible refine Ext.tr ?_ (by with_reducible assumption)))).mono ?_); rintro e w9 ⟨rfl, ht9, hd9⟩; have Q14 := ht9.blk (BlkA (o := .cells #[.int .i64 0, .bool false, .int .u64 0, .slice none 0 0] 29) P14) HgB.out; have b0 := Q14.cell 0; have b1 := Q14.cell 1; have HD9 := Lib.hid hd9; have x0 : Ext wr (w6.alloc (.cells #[.int .i64 0, .bool false, .int .u64 0, .slice none 0 0] 29)) := (by repeat (first | with_reducible exact Below.refl _ _ | with_reducible assumption | with_reducible refine ExtD ?_ | with_reducible refine ExtDN ?_ | with_reducible refine ExtA ?_ | (with_reducible refine ExtR ?_ ?_; (first | omega | (dsimp only; omega) | (simp; done) | (simp; omega))) | (with_reducible refine ExtS ?_ ?_; (first | omega | (dsimp only; omega) | (simp; done) | (simp; omega))) | with_reducible refine Ext.tr ?_ (by with_reducible assumption))); have HT9 := Lib.hid (Turn.tr (x0.turn _) ht9); clear hd9 ht9 x0)
  | (go_at_call 37; (with_reducible refine (KZag.out _).mono ?_); rintro e w10 ⟨rfl, hx10⟩; have b1 := (BlkE Q14 hx10).cell 1)
  | (go_at_call 33; (with_reducible refine (KTxt.out _ (by repeat (first | with_reducible exact Below.refl _ _ | with_reducible assumption | with_reducible refine ExtD ?_ | with_reducible refine ExtDN ?_ | with_reducible refine ExtA ?_ | (with_reducible refine ExtR ?_ ?_; (first | omega | (dsimp only; omega) | (simp; done) | (simp; omega))) | (with_reducible refine ExtS ?_ ?_; (first | omega | (dsimp only; omega) | (simp; done) | (simp; omega))) | with_reducible refine Ext.tr ?_ (by with_reducible assumption)))).mono ?_); rintro e w9 ⟨rfl, ht9, hd9, hr9⟩; have Q14 := ht9.blk (BlkA (o := .cells #[] 5) (BlkA (o := .cells #[.int .i64 0, .bool false, .int .u64 0, .slice none 0 0] 29) P14)) HgB.out; have b1 := Q14.cell 1; have HD9 := Lib.hid hd9; have HR9 := Lib.hid hr9; have x0 : Ext wr ((w6.alloc (.cells #[.int .i64 0, .bool false, .int .u64 0, .slice none 0 0] 29)).alloc (.cells #[] 5)) := (by repeat (first | with_reducible exact Below.refl _ _ | with_reducible assumption | with_reducible refine ExtD ?_ | with_reducible refine ExtDN ?_ | with_reducible refine ExtA ?_ | (with_reducible refine ExtR ?_ ?_; (first | omega | (dsimp only; omega) | (simp; done) | (simp; omega))) | (with_reducible refine ExtS ?_ ?_; (first | omega | (dsimp only; omega) | (simp; done) | (simp; omega))) | with_reducible refine Ext.tr ?_ (by with_reducible assumption))); have HT9 := Lib.hid (Turn.tr (x0.turn _) ht9); clear hd9 ht9 hr9 x0)
  | (go_at_call 15; (first | (with_reducible refine (KSam.out _ _ _ _ _ HT9.out HR9.out).mono ?_) | (with_reducible refine (KSam.out _ HT9.out HR9.out).mono ?_)); rintro e w10 ⟨rfl, hx10⟩; have b1 := (BlkE Q14 hx10).cell 1))
                    have xz : Ext w9 w10 := (by repeat (first | with_reducible exact Below.refl _ _ | with_reducible assumption | with_reducible refine ExtD ?_ | with_reducible refine ExtDN ?_ | with_reducible refine ExtA ?_ | (with_reducible refine ExtR ?_ ?_; (first | omega | (dsimp only; omega) | (simp; done) | (simp; omega))) | (with_reducible refine ExtS ?_ ?_; (first | omega | (dsimp only; omega) | (simp; done) | (simp; omega))) | with_reducible refine Ext.tr ?_ (by with_reducible assumption)))
                    have T := HT9.out.tr (xz.turn [g, b])
                    obtain ⟨D9, hD9⟩ := HD9.out
                    refine And.intro ⟨k + 1, A8, c8, lf, _, hr, D9, by go_num, by omega, rfl, rfl, T.ext HX.out (fun r hr => by
  rcases List.mem_cons.1 hr with rfl | hr
  · exact HR.out.lo.1
  · rw [List.mem_singleton.1 hr]; exact HR.out.lo.2), HO.out.turnR HR.out T, hD9.ext xz, HM.out, HI.out, HW.out, hl31, T.own HOp.out (fun r hr hc => HbR.out (by simp [Value.ownBlock] at hr; rw [hr]; exact hc))⟩ ?_
                    simp [intOf]; omega
            | some x =>
              obtain ⟨y, hy, hyx⟩ : ∃ y, findH hr tag = some y ∧ y.1 = x.1 := by
                have := find_both HM.out tag
                rw [hf] at this
                cases hy : findH hr tag with
                | none => rw [hy] at this; simp at this
                | some y => rw [hy] at this; simp at this; exact ⟨y, rfl, this.symm⟩
              obtain ⟨hxm, hxt⟩ := find_some hf
              obtain ⟨hym, hyt⟩ := find_some hy
              obtain ⟨⟨tg, xt, nm, bs⟩, Af, cf⟩ := x
              obtain ⟨f2, Ay, cy⟩ := y
              dsimp only at hyx hxt hyt
              subst hyx
              have hxt' : tag = tg := hxt.symm
              subst hxt'
              have hnm : nm < 18446744073709551616 := (HW.out ⟨tag, xt, nm, bs⟩ (List.mem_map.2 ⟨_, hym, rfl⟩)).2.2
              have KF : Hid (∀ W, Ext wr W → Calls Try.prog 36 #[.slice A8 lf.length c8, .int .i64 tag] W fun e w' => e = .returned (.tuple #[.agg #[.int .i64 tag, .bool xt, .int .u64 (nm : Nat), .slice Af bs.length cf], .bool true]) ∧ Ext W w') := Lib.hid fun W hx => by
                have := rfind_any W w.heap.size A8 c8 lf tag (HO.out.ext' hx) hlf
                unfold FindPost foundH at this
                rw [hf] at this
                exact this
              have hbl : bs.length ≤ maxLen := (own_max (HR.out.txt _ hym)).2
              have HRa := Lib.hid (HO.out.2 _ hxm)
              have HRb := Lib.hid (HR.out.txt _ hym)
              have HOw := Lib.hid (fun (W : World) (T : Turn [g, b] wr W) => (HO.out.turnR HR.out T).2 _ hxm)
              have HRw := Lib.hid (fun (W W' : World) (hx : Ext wr W) (T : Turn [g, b] W W') => T.own ((HR.out.ext hx).txt _ hym) fun r hr hc => by
                rcases List.mem_cons.1 hc with rfl | hc
                · exact blk_off ((HR.out.ext hx).txt _ hym) (HR.out.ext hx).blk (by decide) hr
                · rw [List.mem_singleton.1 hc] at hr
                  exact own_notmap (HR.out.ext hx).own ((HR.out.ext hx).txt _ hym) hr)
              cases xt with
              | false =>
                have KNum : Hid (∀ W, Ext wr W → Calls Try.prog 31 #[.pointer (some ⟨g, 0, none⟩), .int .i64 tag] W fun e w' => e = .returned (.int .u64 (nm : Nat)) ∧ Turn [g, b] W w' ∧ ∃ D', RdX w' w.heap.size g b (strike tag hr) (if form = true then 33 else 0) D') := Lib.hid fun W hx => by
                  have := rnum_any W w.heap.size g b hr _ D8 tag (HR.out.ext hx) hIt
                  rw [(take_hitN false (if form = true then 33 else 0) hy rfl).1, (take_hitN false (if form = true then 33 else 0) hy rfl).2] at this
                  exact this
                have KInt : Hid (∀ W, Ext wr W → Calls Try.prog 32 #[.pointer (some ⟨g, 0, none⟩), .int .i64 tag] W fun e w' => e = .returned (.int .i64 (zag nm)) ∧ Turn [g, b] W w' ∧ ∃ D', RdX w' w.heap.size g b (strike tag hr) (if form = true then 33 else 0) D') := Lib.hid fun W hx => by
                  have := rint_any W w.heap.size g b hr _ D8 tag (HR.out.ext hx) hIt (by rw [(take_hitN false 0 hy rfl).1]; exact hnm)
                  rw [(take_hitN false (if form = true then 33 else 0) hy rfl).1, (take_hitN false (if form = true then 33 else 0) hy rfl).2] at this
                  exact this
                have KTxt : Hid (∀ W, Ext wr W → Calls Try.prog 33 #[.pointer (some ⟨g, 0, none⟩), .int .i64 tag] W fun e w' => e = .returned (.slice none 0 0) ∧ Turn [g, b] W w' ∧ (∃ D', RdX w' w.heap.size g b (strike tag hr) (if true = true then 33 else 0) D') ∧ True) := Lib.hid fun W hx => by
                  have := rtext_any W w.heap.size g b hr _ D8 tag (HR.out.ext hx) hIt
                  rw [(take_wrongN true (if form = true then 33 else 0) hy (fun h => Bool.noConfusion h)).1, (take_wrongN true (if form = true then 33 else 0) hy (fun h => Bool.noConfusion h)).2] at this
                  exact this.mono fun e w' ⟨h1, h2, h3⟩ => ⟨h1, h2, h3, trivial⟩
                have KZag := Lib.hid fun W => rzag_any nm hnm W
                have KSam : Hid (∀ (W : World) (A1 A2 : Option Addr) (c1 c2 : Nat), Turn [g, b] wr W → True → Calls Try.prog 15 #[.slice A1 0 c1, .slice A2 0 c2] W fun e w' => e = .returned (.bool true) ∧ Ext W w') := Lib.hid fun W A1 A2 c1 c2 _ _ => same_yes A1 A2 0 c1 0 c2 [] W (rd_zero _ _) (rd_zero _ _) (by decide)
                clear hf hy hxm hym hxt hyt
                rcases hkd with rfl | rfl | rfl
                · cases form
                  all_goals
                    as_aux_lemma =>
                      go_wp2_with (first
  | (go_at_call 36; (with_reducible refine (KF.out _ (by repeat (first | with_reducible exact Below.refl _ _ | with_reducible assumption | with_reducible refine ExtD ?_ | with_reducible refine ExtDN ?_ | with_reducible refine ExtA ?_ | (with_reducible refine ExtR ?_ ?_; (first | omega | (dsimp only; omega) | (simp; done) | (simp; omega))) | (with_reducible refine ExtS ?_ ?_; (first | omega | (dsimp only; omega) | (simp; done) | (simp; omega))) | with_reducible refine Ext.tr ?_ (by with_reducible assumption)))).mono ?_); rintro e w6 ⟨rfl, hx6⟩; have P14 : Blk w6 wr.heap.size 48 #[.int .i64 0, .int .i64 tag, .int .i64 v, .slice Bp pl.length cb] := BlkE (BlkN rfl) hx6; have a0 : ∀ ob, (w6.alloc ob).cell? ⟨wr.heap.size, 0, none⟩ = some (.int .i64 0) := fun ob => (BlkA (o := ob) P14).cell 0; have a1 : ∀ ob, (w6.alloc ob).cell? ⟨wr.heap.size, 1, none⟩ = some (.int .i64 tag) := fun ob => (BlkA (o := ob) P14).cell 1; have a2 : ∀ ob ob2, ((w6.alloc ob).alloc ob2).cell? ⟨wr.heap.size, 1, none⟩ = some (.int .i64 tag) := fun ob ob2 => (BlkA (o := ob2) (BlkA (o := ob) P14)).cell 1; have hz6 : wr.heap.size < w6.heap.size := P14.lt)
  | (go_at_call 31; (with_reducible refine (KNum.out _ (by repeat (first | with_reducible exact Below.refl _ _ | with_reducible assumption | with_reducible refine ExtD ?_ | with_reducible refine ExtDN ?_ | with_reducible refine ExtA ?_ | (with_reducible refine ExtR ?_ ?_; (first | omega | (dsimp only; omega) | (simp; done) | (simp; omega))) | (with_reducible refine ExtS ?_ ?_; (first | omega | (dsimp only; omega) | (simp; done) | (simp; omega))) | with_reducible refine Ext.tr ?_ (by with_reducible assumption)))).mono ?_); rintro e w9 ⟨rfl, ht9, hd9⟩; have Q14 := ht9.blk (BlkA (o := .cells #[.int .i64 tag, .bool false, .int .u64 (nm : Nat), .slice Af bs.length cf] 29) P14) HgB.out; have b0 := Q14.cell 0; have b1 := Q14.cell 1; have HD9 := Lib.hid hd9; have x0 : Ext wr (w6.alloc (.cells #[.int .i64 tag, .bool false, .int .u64 (nm : Nat), .slice Af bs.length cf] 29)) := (by repeat (first | with_reducible exact Below.refl _ _ | with_reducible assumption | with_reducible refine ExtD ?_ | with_reducible refine ExtDN ?_ | with_reducible refine ExtA ?_ | (with_reducible refine ExtR ?_ ?_; (first | omega | (dsimp only; omega) | (simp; done) | (simp; omega))) | (with_reducible refine ExtS ?_ ?_; (first | omega | (dsimp only; omega) | (simp; done) | (simp; omega))) | with_reducible refine Ext.tr ?_ (by with_reducible assumption))); have HT9 := Lib.hid (Turn.tr (x0.turn _) ht9); clear hd9 ht9 x0)
  | (go_at_call 32; (with_reducible refine (KInt.out _ (by repeat (first | with_reducible exact Below.refl _ _ | with_reducible assumption | with_reducible refine ExtD ?_ | with_reducible refine ExtDN ?_ | with_reducible refine ExtA ?_ | (with_reducible refine ExtR ?_ ?_; (first | omega | (dsimp only; omega) | (simp; done) | (simp; omega))) | (with_reducible refine ExtS ?_ ?_; (first | omega | (dsimp only; omega) | (simp; done) | (simp; omega))) | with_reducible refine Ext.tr ?_ (by with_reducible assumption)))).mono ?_); rintro e w9 ⟨rfl, ht9, hd9⟩; have Q14 := ht9.blk (BlkA (o := .cells #[.int .i64 tag, .bool false, .int .u64 (nm : Nat), .slice Af bs.length cf] 29) P14) HgB.out; have b0 := Q14.cell 0; have b1 := Q14.cell 1; have HD9 := Lib.hid hd9; have x0 : Ext wr (w6.alloc (.cells #[.int .i64 tag, .bool false, .int .u64 (nm : Nat), .slice Af bs.length cf] 29)) := (by repeat (first | with_reducible exact Below.refl _ _ | with_reducible assumption | with_reducible refine ExtD ?_ | with_reducible refine ExtDN ?_ | with_reducible refine ExtA ?_ | (with_reducible refine ExtR ?_ ?_; (first | omega | (dsimp only; omega) | (simp; done) | (simp; omega))) | (with_reducible refine ExtS ?_ ?_; (first | omega | (dsimp only; omega) | (simp; done) | (simp; omega))) | with_reducible refine Ext.tr ?_ (by with_reducible assumption))); have HT9 := Lib.hid (Turn.tr (x0.turn _) ht9); clear hd9 ht9 x0)
  | (go_at_call 37; (with_reducible refine (KZag.out _).mono ?_); rintro e w10 ⟨rfl, hx10⟩; have b1 := (BlkE Q14 hx10).cell 1)
  | (go_at_call 33; (with_reducible refine (KTxt.out _ (by repeat (first | with_reducible exact Below.refl _ _ | with_reducible assumption | with_reducible refine ExtD ?_ | with_reducible refine ExtDN ?_ | with_reducible refine ExtA ?_ | (with_reducible refine ExtR ?_ ?_; (first | omega | (dsimp only; omega) | (simp; done) | (simp; omega))) | (with_reducible refine ExtS ?_ ?_; (first | omega | (dsimp only; omega) | (simp; done) | (simp; omega))) | with_reducible refine Ext.tr ?_ (by with_reducible assumption)))).mono ?_); rintro e w9 ⟨rfl, ht9, hd9, hr9⟩; have Q14 := ht9.blk (BlkA (o := .cells #[] 5) (BlkA (o := .cells #[.int .i64 tag, .bool false, .int .u64 (nm : Nat), .slice Af bs.length cf] 29) P14)) HgB.out; have b1 := Q14.cell 1; have HD9 := Lib.hid hd9; have HR9 := Lib.hid hr9; have x0 : Ext wr ((w6.alloc (.cells #[.int .i64 tag, .bool false, .int .u64 (nm : Nat), .slice Af bs.length cf] 29)).alloc (.cells #[] 5)) := (by repeat (first | with_reducible exact Below.refl _ _ | with_reducible assumption | with_reducible refine ExtD ?_ | with_reducible refine ExtDN ?_ | with_reducible refine ExtA ?_ | (with_reducible refine ExtR ?_ ?_; (first | omega | (dsimp only; omega) | (simp; done) | (simp; omega))) | (with_reducible refine ExtS ?_ ?_; (first | omega | (dsimp only; omega) | (simp; done) | (simp; omega))) | with_reducible refine Ext.tr ?_ (by with_reducible assumption))); have HT9 := Lib.hid (Turn.tr (x0.turn _) ht9); clear hd9 ht9 hr9 x0)
  | (go_at_call 15; (first | (with_reducible refine (KSam.out _ _ _ _ _ HT9.out HR9.out).mono ?_) | (with_reducible refine (KSam.out _ HT9.out HR9.out).mono ?_)); rintro e w10 ⟨rfl, hx10⟩; have b1 := (BlkE Q14 hx10).cell 1))
                      have xz : Ext w9 w9 := (by repeat (first | with_reducible exact Below.refl _ _ | with_reducible assumption | with_reducible refine ExtD ?_ | with_reducible refine ExtDN ?_ | with_reducible refine ExtA ?_ | (with_reducible refine ExtR ?_ ?_; (first | omega | (dsimp only; omega) | (simp; done) | (simp; omega))) | (with_reducible refine ExtS ?_ ?_; (first | omega | (dsimp only; omega) | (simp; done) | (simp; omega))) | with_reducible refine Ext.tr ?_ (by with_reducible assumption)))
                      have T := HT9.out.tr (xz.turn [g, b])
                      have HOz := Lib.hid (HO.out.turnR HR.out T)
                      have HXz := Lib.hid (T.ext HX.out (fun r hr => by
  rcases List.mem_cons.1 hr with rfl | hr
  · exact HR.out.lo.1
  · rw [List.mem_singleton.1 hr]; exact HR.out.lo.2))
                      have HPz := Lib.hid (T.own HOp.out (fun r hr hc => HbR.out (by simp [Value.ownBlock] at hr; rw [hr]; exact hc)))
                      have Q15 : Blk w9 wr.heap.size 48 #[.int .i64 0, .int .i64 tag, .int .i64 v, .slice Bp pl.length cb] := BlkE Q14 xz
                      have HQ15 := Lib.hid Q15
                      have Hxz := Lib.hid xz
                      have HE0 : Hid ((w9.alloc (.cells #[] 29)).ownsRow w9.heap.size 29 4 (.slice (some ⟨w9.heap.size, 0, none⟩) 0 0) 0 (fsCells [])) := Lib.hid (own_new w9 _ #[] _ 0 (Nat.le_refl _) (by decide) rfl)
                      clear a0 a1 a2 T xz Q15
                      try clear b0
                      go_loopw [22, 211] (fun d22 d211 wy => LfR w9 lf tag d22 d211 wy) (fun _ d211 _ => lf.length - (intOf d211).toNat)
                      case atStart => exact ⟨0, _, 0, rfl, by omega, rfl, HE0.out, ExtA (Ext.rfl' _)⟩
                      case round =>
                        rename World => wy
                        obtain ⟨j, A9, c9, rfl, hj, rfl, ho9, hx9⟩ := hrel
                        have hOy := HOz.out.ext' hx9
                        have P16 := BlkE HQ15.out hx9
                        have p1 : wy.cell? ⟨wr.heap.size, 1, none⟩ = some (.int .i64 tag) := P16.cell 1
                        by_cases hjl : j < lf.length
                        · obtain ⟨bf, rfl, _, hcl⟩ := own_row_at hOy.1 (by omega)
                          obtain ⟨⟨⟨ut, ux, un, ub⟩, Au, cu⟩, hg⟩ : ∃ h, lf[j]? = some h := ⟨_, List.getElem?_eq_getElem hjl⟩
                          have u0 : wy.cell? ⟨bf, j * 4, none⟩ = some (.int .i64 ut) := (hcl (j * 4 + 0) _ (by rw [fsCells_at lf j 0 _ hg (by omega)]; rfl)).1
                          have u1 : wy.cell? ⟨bf, j * 4 + 1, none⟩ = some (.bool ux) := (hcl (j * 4 + 1) _ (by rw [fsCells_at lf j 1 _ hg (by omega)]; rfl)).1
                          have u2 : wy.cell? ⟨bf, j * 4 + 2, none⟩ = some (.int .u64 (un : Nat)) := (hcl (j * 4 + 2) _ (by rw [fsCells_at lf j 2 _ hg (by omega)]; rfl)).1
                          have u3 : wy.cell? ⟨bf, j * 4 + 3, none⟩ = some (.slice Au ub.length cu) := (hcl (j * 4 + 3) _ (by rw [fsCells_at lf j 3 _ hg (by omega)]; rfl)).1
                          have hsn := strike_snoc (t := tag) hg
                          have Hrf := Lib.hid fun (W : World) => rdF_new W _ ⟨ut, ux, un, ub⟩ Au cu rfl
                          have hsl := strike_len tag (lf.take j)
                          have HLj : Hid ((strike tag (lf.take j)).length ≤ 31) := Lib.hid (by rw [List.length_take] at hsl; omega)
                          have HO9 := Lib.hid ho9
                          clear hcl hg ho9 hOy hsl P16
                          by_cases htt : ut = tag
                          · have t0 : (ut != tag) = false := by simpa using htt
                            rw [if_pos htt] at hsn
                            have Hsn := Lib.hid hsn
                            clear htt hsn
                            go_wp2_with fail
                            go_quiet (fail)
                            go_wp2_with fail
                            refine And.intro ⟨j + 1, A9, c9, by go_num, by omega, by rw [Hsn.out], by rw [Hsn.out]; exact own_ext (by repeat (first | with_reducible exact Below.refl _ _ | with_reducible assumption | with_reducible refine ExtD ?_ | with_reducible refine ExtDN ?_ | with_reducible refine ExtA ?_ | (with_reducible refine ExtR ?_ ?_; (first | omega | (dsimp only; omega) | (simp; done) | (simp; omega))) | (with_reducible refine ExtS ?_ ?_; (first | omega | (dsimp only; omega) | (simp; done) | (simp; omega))) | with_reducible refine Ext.tr ?_ (by with_reducible assumption))) HO9.out, (by repeat (first | with_reducible exact Below.refl _ _ | with_reducible assumption | with_reducible refine ExtD ?_ | with_reducible refine ExtDN ?_ | with_reducible refine ExtA ?_ | (with_reducible refine ExtR ?_ ?_; (first | omega | (dsimp only; omega) | (simp; done) | (simp; omega))) | (with_reducible refine ExtS ?_ ?_; (first | omega | (dsimp only; omega) | (simp; done) | (simp; omega))) | with_reducible refine Ext.tr ?_ (by with_reducible assumption)))⟩ ?_
                            simp [intOf]; omega
                          · have t0 : (ut != tag) = true := by simpa using htt
                            rw [if_neg htt] at hsn
                            have Hsn := Lib.hid hsn
                            clear htt hsn
                            have v0 : wy.drew.cell? ⟨bf, j * 4, none⟩ = some (.int .i64 ut) := u0
                            go_wp2_with fail
                            go_quiet (fail)
                            go_wp2_with (change wpList _ _ _ (⟨some 228, _, _, _, _, _⟩ :: _) _ _; refine wpFd_append rfl (.tmp 222) (.tmp 227) rfl w9.heap.size (Nat.le_trans hx9.size (Below.size (B := wy.heap.size) (w := wy) (by repeat (first | with_reducible exact Below.refl _ _ | with_reducible assumption | with_reducible refine ExtD ?_ | with_reducible refine ExtDN ?_ | with_reducible refine ExtA ?_ | (with_reducible refine ExtR ?_ ?_; (first | omega | (dsimp only; omega) | (simp; done) | (simp; omega))) | (with_reducible refine ExtS ?_ ?_; (first | omega | (dsimp only; omega) | (simp; done) | (simp; omega))) | with_reducible refine Ext.tr ?_ (by with_reducible assumption))))) rfl (own_ext (w := wy) (by repeat (first | with_reducible exact Below.refl _ _ | with_reducible assumption | with_reducible refine ExtD ?_ | with_reducible refine ExtDN ?_ | with_reducible refine ExtA ?_ | (with_reducible refine ExtR ?_ ?_; (first | omega | (dsimp only; omega) | (simp; done) | (simp; omega))) | (with_reducible refine ExtS ?_ ?_; (first | omega | (dsimp only; omega) | (simp; done) | (simp; omega))) | with_reducible refine Ext.tr ?_ (by with_reducible assumption))) HO9.out) rfl (Hrf.out _) (by have := HLj.out; simp; omega) ?_; intro A10 n10 c10 w11 hn10 ho10 ht10 hb10; have O10 := Lib.hid ho10; clear ho10)
                            obtain rfl : n10 = (strike tag (lf.take j)).length + 1 := by rw [hn10.out]; rfl
                            refine And.intro ⟨j + 1, A10, c10, by go_num, by omega, by rw [Hsn.out, List.length_append]; rfl, by rw [Hsn.out, List.length_append]; exact O10.out, ?_⟩ ?_
                            · exact ht10.ext (hx9.tr (by repeat (first | with_reducible exact Below.refl _ _ | with_reducible assumption | with_reducible refine ExtD ?_ | with_reducible refine ExtDN ?_ | with_reducible refine ExtA ?_ | (with_reducible refine ExtR ?_ ?_; (first | omega | (dsimp only; omega) | (simp; done) | (simp; omega))) | (with_reducible refine ExtS ?_ ?_; (first | omega | (dsimp only; omega) | (simp; done) | (simp; omega))) | with_reducible refine Ext.tr ?_ (by with_reducible assumption)))) fun r hr => (HO9.out.lt r (own_blkOf hr)).1
                            · simp [intOf]; omega
                        · obtain rfl : j = lf.length := by omega
                          rw [List.take_length] at ho9 ⊢
                          have HO9 := Lib.hid ho9
                          have HOy := Lib.hid hOy
                          clear ho9 hOy P16
                          go_wp2_with fail
                          obtain ⟨D9, hD9⟩ := HD9.out
                          refine And.intro ⟨k + 1, A9, c9, strike tag lf, _, strike tag hr, D9, by go_num, by omega, rfl, rfl, HXz.out.tr hx9, ⟨own_base HO9.out (HXz.out.size), fun x hx => HOy.out.2 x (strike_mem hx)⟩, hD9.ext (Hxz.out.tr hx9), strike_both HM.out tag, strike_rise HI.out, fun f hf => ?_, Nat.le_trans (strike_len _ _) hl31, own_ext hx9 HPz.out⟩ ?_
                          · obtain ⟨x, hx, rfl⟩ := List.mem_map.1 hf
                            exact HW.out _ (List.mem_map.2 ⟨x, strike_mem hx, rfl⟩)
                          · simp [intOf]; omega
                · cases form
                  all_goals
                    as_aux_lemma =>
                      go_wp2_with (first
  | (go_at_call 36; (with_reducible refine (KF.out _ (by repeat (first | with_reducible exact Below.refl _ _ | with_reducible assumption | with_reducible refine ExtD ?_ | with_reducible refine ExtDN ?_ | with_reducible refine ExtA ?_ | (with_reducible refine ExtR ?_ ?_; (first | omega | (dsimp only; omega) | (simp; done) | (simp; omega))) | (with_reducible refine ExtS ?_ ?_; (first | omega | (dsimp only; omega) | (simp; done) | (simp; omega))) | with_reducible refine Ext.tr ?_ (by with_reducible assumption)))).mono ?_); rintro e w6 ⟨rfl, hx6⟩; have P14 : Blk w6 wr.heap.size 48 #[.int .i64 1, .int .i64 tag, .int .i64 v, .slice Bp pl.length cb] := BlkE (BlkN rfl) hx6; have a0 : ∀ ob, (w6.alloc ob).cell? ⟨wr.heap.size, 0, none⟩ = some (.int .i64 1) := fun ob => (BlkA (o := ob) P14).cell 0; have a1 : ∀ ob, (w6.alloc ob).cell? ⟨wr.heap.size, 1, none⟩ = some (.int .i64 tag) := fun ob => (BlkA (o := ob) P14).cell 1; have a2 : ∀ ob ob2, ((w6.alloc ob).alloc ob2).cell? ⟨wr.heap.size, 1, none⟩ = some (.int .i64 tag) := fun ob ob2 => (BlkA (o := ob2) (BlkA (o := ob) P14)).cell 1; have hz6 : wr.heap.size < w6.heap.size := P14.lt)
  | (go_at_call 31; (with_reducible refine (KNum.out _ (by repeat (first | with_reducible exact Below.refl _ _ | with_reducible assumption | with_reducible refine ExtD ?_ | with_reducible refine ExtDN ?_ | with_reducible refine ExtA ?_ | (with_reducible refine ExtR ?_ ?_; (first | omega | (dsimp only; omega) | (simp; done) | (simp; omega))) | (with_reducible refine ExtS ?_ ?_; (first | omega | (dsimp only; omega) | (simp; done) | (simp; omega))) | with_reducible refine Ext.tr ?_ (by with_reducible assumption)))).mono ?_); rintro e w9 ⟨rfl, ht9, hd9⟩; have Q14 := ht9.blk (BlkA (o := .cells #[.int .i64 tag, .bool false, .int .u64 (nm : Nat), .slice Af bs.length cf] 29) P14) HgB.out; have b0 := Q14.cell 0; have b1 := Q14.cell 1; have HD9 := Lib.hid hd9; have x0 : Ext wr (w6.alloc (.cells #[.int .i64 tag, .bool false, .int .u64 (nm : Nat), .slice Af bs.length cf] 29)) := (by repeat (first | with_reducible exact Below.refl _ _ | with_reducible assumption | with_reducible refine ExtD ?_ | with_reducible refine ExtDN ?_ | with_reducible refine ExtA ?_ | (with_reducible refine ExtR ?_ ?_; (first | omega | (dsimp only; omega) | (simp; done) | (simp; omega))) | (with_reducible refine ExtS ?_ ?_; (first | omega | (dsimp only; omega) | (simp; done) | (simp; omega))) | with_reducible refine Ext.tr ?_ (by with_reducible assumption))); have HT9 := Lib.hid (Turn.tr (x0.turn _) ht9); clear hd9 ht9 x0)
  | (go_at_call 32; (with_reducible refine (KInt.out _ (by repeat (first | with_reducible exact Below.refl _ _ | with_reducible assumption | with_reducible refine ExtD ?_ | with_reducible refine ExtDN ?_ | with_reducible refine ExtA ?_ | (with_reducible refine ExtR ?_ ?_; (first | omega | (dsimp only; omega) | (simp; done) | (simp; omega))) | (with_reducible refine ExtS ?_ ?_; (first | omega | (dsimp only; omega) | (simp; done) | (simp; omega))) | with_reducible refine Ext.tr ?_ (by with_reducible assumption)))).mono ?_); rintro e w9 ⟨rfl, ht9, hd9⟩; have Q14 := ht9.blk (BlkA (o := .cells #[.int .i64 tag, .bool false, .int .u64 (nm : Nat), .slice Af bs.length cf] 29) P14) HgB.out; have b0 := Q14.cell 0; have b1 := Q14.cell 1; have HD9 := Lib.hid hd9; have x0 : Ext wr (w6.alloc (.cells #[.int .i64 tag, .bool false, .int .u64 (nm : Nat), .slice Af bs.length cf] 29)) := (by repeat (first | with_reducible exact Below.refl _ _ | with_reducible assumption | with_reducible refine ExtD ?_ | with_reducible refine ExtDN ?_ | with_reducible refine ExtA ?_ | (with_reducible refine ExtR ?_ ?_; (first | omega | (dsimp only; omega) | (simp; done) | (simp; omega))) | (with_reducible refine ExtS ?_ ?_; (first | omega | (dsimp only; omega) | (simp; done) | (simp; omega))) | with_reducible refine Ext.tr ?_ (by with_reducible assumption))); have HT9 := Lib.hid (Turn.tr (x0.turn _) ht9); clear hd9 ht9 x0)
  | (go_at_call 37; (with_reducible refine (KZag.out _).mono ?_); rintro e w10 ⟨rfl, hx10⟩; have b1 := (BlkE Q14 hx10).cell 1)
  | (go_at_call 33; (with_reducible refine (KTxt.out _ (by repeat (first | with_reducible exact Below.refl _ _ | with_reducible assumption | with_reducible refine ExtD ?_ | with_reducible refine ExtDN ?_ | with_reducible refine ExtA ?_ | (with_reducible refine ExtR ?_ ?_; (first | omega | (dsimp only; omega) | (simp; done) | (simp; omega))) | (with_reducible refine ExtS ?_ ?_; (first | omega | (dsimp only; omega) | (simp; done) | (simp; omega))) | with_reducible refine Ext.tr ?_ (by with_reducible assumption)))).mono ?_); rintro e w9 ⟨rfl, ht9, hd9, hr9⟩; have Q14 := ht9.blk (BlkA (o := .cells #[] 5) (BlkA (o := .cells #[.int .i64 tag, .bool false, .int .u64 (nm : Nat), .slice Af bs.length cf] 29) P14)) HgB.out; have b1 := Q14.cell 1; have HD9 := Lib.hid hd9; have HR9 := Lib.hid hr9; have x0 : Ext wr ((w6.alloc (.cells #[.int .i64 tag, .bool false, .int .u64 (nm : Nat), .slice Af bs.length cf] 29)).alloc (.cells #[] 5)) := (by repeat (first | with_reducible exact Below.refl _ _ | with_reducible assumption | with_reducible refine ExtD ?_ | with_reducible refine ExtDN ?_ | with_reducible refine ExtA ?_ | (with_reducible refine ExtR ?_ ?_; (first | omega | (dsimp only; omega) | (simp; done) | (simp; omega))) | (with_reducible refine ExtS ?_ ?_; (first | omega | (dsimp only; omega) | (simp; done) | (simp; omega))) | with_reducible refine Ext.tr ?_ (by with_reducible assumption))); have HT9 := Lib.hid (Turn.tr (x0.turn _) ht9); clear hd9 ht9 hr9 x0)
  | (go_at_call 15; (first | (with_reducible refine (KSam.out _ _ _ _ _ HT9.out HR9.out).mono ?_) | (with_reducible refine (KSam.out _ HT9.out HR9.out).mono ?_)); rintro e w10 ⟨rfl, hx10⟩; have b1 := (BlkE Q14 hx10).cell 1))
                      have xz : Ext w9 w10 := (by repeat (first | with_reducible exact Below.refl _ _ | with_reducible assumption | with_reducible refine ExtD ?_ | with_reducible refine ExtDN ?_ | with_reducible refine ExtA ?_ | (with_reducible refine ExtR ?_ ?_; (first | omega | (dsimp only; omega) | (simp; done) | (simp; omega))) | (with_reducible refine ExtS ?_ ?_; (first | omega | (dsimp only; omega) | (simp; done) | (simp; omega))) | with_reducible refine Ext.tr ?_ (by with_reducible assumption)))
                      have T := HT9.out.tr (xz.turn [g, b])
                      have HOz := Lib.hid (HO.out.turnR HR.out T)
                      have HXz := Lib.hid (T.ext HX.out (fun r hr => by
  rcases List.mem_cons.1 hr with rfl | hr
  · exact HR.out.lo.1
  · rw [List.mem_singleton.1 hr]; exact HR.out.lo.2))
                      have HPz := Lib.hid (T.own HOp.out (fun r hr hc => HbR.out (by simp [Value.ownBlock] at hr; rw [hr]; exact hc)))
                      have Q15 : Blk w10 wr.heap.size 48 #[.int .i64 1, .int .i64 tag, .int .i64 v, .slice Bp pl.length cb] := BlkE Q14 xz
                      have HQ15 := Lib.hid Q15
                      have Hxz := Lib.hid xz
                      have HE0 : Hid ((w10.alloc (.cells #[] 29)).ownsRow w10.heap.size 29 4 (.slice (some ⟨w10.heap.size, 0, none⟩) 0 0) 0 (fsCells [])) := Lib.hid (own_new w10 _ #[] _ 0 (Nat.le_refl _) (by decide) rfl)
                      clear a0 a1 a2 T xz Q15
                      try clear b0
                      go_loopw [22, 211] (fun d22 d211 wy => LfR w10 lf tag d22 d211 wy) (fun _ d211 _ => lf.length - (intOf d211).toNat)
                      case atStart => exact ⟨0, _, 0, rfl, by omega, rfl, HE0.out, ExtA (Ext.rfl' _)⟩
                      case round =>
                        rename World => wy
                        obtain ⟨j, A9, c9, rfl, hj, rfl, ho9, hx9⟩ := hrel
                        have hOy := HOz.out.ext' hx9
                        have P16 := BlkE HQ15.out hx9
                        have p1 : wy.cell? ⟨wr.heap.size, 1, none⟩ = some (.int .i64 tag) := P16.cell 1
                        by_cases hjl : j < lf.length
                        · obtain ⟨bf, rfl, _, hcl⟩ := own_row_at hOy.1 (by omega)
                          obtain ⟨⟨⟨ut, ux, un, ub⟩, Au, cu⟩, hg⟩ : ∃ h, lf[j]? = some h := ⟨_, List.getElem?_eq_getElem hjl⟩
                          have u0 : wy.cell? ⟨bf, j * 4, none⟩ = some (.int .i64 ut) := (hcl (j * 4 + 0) _ (by rw [fsCells_at lf j 0 _ hg (by omega)]; rfl)).1
                          have u1 : wy.cell? ⟨bf, j * 4 + 1, none⟩ = some (.bool ux) := (hcl (j * 4 + 1) _ (by rw [fsCells_at lf j 1 _ hg (by omega)]; rfl)).1
                          have u2 : wy.cell? ⟨bf, j * 4 + 2, none⟩ = some (.int .u64 (un : Nat)) := (hcl (j * 4 + 2) _ (by rw [fsCells_at lf j 2 _ hg (by omega)]; rfl)).1
                          have u3 : wy.cell? ⟨bf, j * 4 + 3, none⟩ = some (.slice Au ub.length cu) := (hcl (j * 4 + 3) _ (by rw [fsCells_at lf j 3 _ hg (by omega)]; rfl)).1
                          have hsn := strike_snoc (t := tag) hg
                          have Hrf := Lib.hid fun (W : World) => rdF_new W _ ⟨ut, ux, un, ub⟩ Au cu rfl
                          have hsl := strike_len tag (lf.take j)
                          have HLj : Hid ((strike tag (lf.take j)).length ≤ 31) := Lib.hid (by rw [List.length_take] at hsl; omega)
                          have HO9 := Lib.hid ho9
                          clear hcl hg ho9 hOy hsl P16
                          by_cases htt : ut = tag
                          · have t0 : (ut != tag) = false := by simpa using htt
                            rw [if_pos htt] at hsn
                            have Hsn := Lib.hid hsn
                            clear htt hsn
                            go_wp2_with fail
                            go_quiet (fail)
                            go_wp2_with fail
                            refine And.intro ⟨j + 1, A9, c9, by go_num, by omega, by rw [Hsn.out], by rw [Hsn.out]; exact own_ext (by repeat (first | with_reducible exact Below.refl _ _ | with_reducible assumption | with_reducible refine ExtD ?_ | with_reducible refine ExtDN ?_ | with_reducible refine ExtA ?_ | (with_reducible refine ExtR ?_ ?_; (first | omega | (dsimp only; omega) | (simp; done) | (simp; omega))) | (with_reducible refine ExtS ?_ ?_; (first | omega | (dsimp only; omega) | (simp; done) | (simp; omega))) | with_reducible refine Ext.tr ?_ (by with_reducible assumption))) HO9.out, (by repeat (first | with_reducible exact Below.refl _ _ | with_reducible assumption | with_reducible refine ExtD ?_ | with_reducible refine ExtDN ?_ | with_reducible refine ExtA ?_ | (with_reducible refine ExtR ?_ ?_; (first | omega | (dsimp only; omega) | (simp; done) | (simp; omega))) | (with_reducible refine ExtS ?_ ?_; (first | omega | (dsimp only; omega) | (simp; done) | (simp; omega))) | with_reducible refine Ext.tr ?_ (by with_reducible assumption)))⟩ ?_
                            simp [intOf]; omega
                          · have t0 : (ut != tag) = true := by simpa using htt
                            rw [if_neg htt] at hsn
                            have Hsn := Lib.hid hsn
                            clear htt hsn
                            have v0 : wy.drew.cell? ⟨bf, j * 4, none⟩ = some (.int .i64 ut) := u0
                            go_wp2_with fail
                            go_quiet (fail)
                            go_wp2_with (change wpList _ _ _ (⟨some 228, _, _, _, _, _⟩ :: _) _ _; refine wpFd_append rfl (.tmp 222) (.tmp 227) rfl w10.heap.size (Nat.le_trans hx9.size (Below.size (B := wy.heap.size) (w := wy) (by repeat (first | with_reducible exact Below.refl _ _ | with_reducible assumption | with_reducible refine ExtD ?_ | with_reducible refine ExtDN ?_ | with_reducible refine ExtA ?_ | (with_reducible refine ExtR ?_ ?_; (first | omega | (dsimp only; omega) | (simp; done) | (simp; omega))) | (with_reducible refine ExtS ?_ ?_; (first | omega | (dsimp only; omega) | (simp; done) | (simp; omega))) | with_reducible refine Ext.tr ?_ (by with_reducible assumption))))) rfl (own_ext (w := wy) (by repeat (first | with_reducible exact Below.refl _ _ | with_reducible assumption | with_reducible refine ExtD ?_ | with_reducible refine ExtDN ?_ | with_reducible refine ExtA ?_ | (with_reducible refine ExtR ?_ ?_; (first | omega | (dsimp only; omega) | (simp; done) | (simp; omega))) | (with_reducible refine ExtS ?_ ?_; (first | omega | (dsimp only; omega) | (simp; done) | (simp; omega))) | with_reducible refine Ext.tr ?_ (by with_reducible assumption))) HO9.out) rfl (Hrf.out _) (by have := HLj.out; simp; omega) ?_; intro A10 n10 c10 w11 hn10 ho10 ht10 hb10; have O10 := Lib.hid ho10; clear ho10)
                            obtain rfl : n10 = (strike tag (lf.take j)).length + 1 := by rw [hn10.out]; rfl
                            refine And.intro ⟨j + 1, A10, c10, by go_num, by omega, by rw [Hsn.out, List.length_append]; rfl, by rw [Hsn.out, List.length_append]; exact O10.out, ?_⟩ ?_
                            · exact ht10.ext (hx9.tr (by repeat (first | with_reducible exact Below.refl _ _ | with_reducible assumption | with_reducible refine ExtD ?_ | with_reducible refine ExtDN ?_ | with_reducible refine ExtA ?_ | (with_reducible refine ExtR ?_ ?_; (first | omega | (dsimp only; omega) | (simp; done) | (simp; omega))) | (with_reducible refine ExtS ?_ ?_; (first | omega | (dsimp only; omega) | (simp; done) | (simp; omega))) | with_reducible refine Ext.tr ?_ (by with_reducible assumption)))) fun r hr => (HO9.out.lt r (own_blkOf hr)).1
                            · simp [intOf]; omega
                        · obtain rfl : j = lf.length := by omega
                          rw [List.take_length] at ho9 ⊢
                          have HO9 := Lib.hid ho9
                          have HOy := Lib.hid hOy
                          clear ho9 hOy P16
                          go_wp2_with fail
                          obtain ⟨D9, hD9⟩ := HD9.out
                          refine And.intro ⟨k + 1, A9, c9, strike tag lf, _, strike tag hr, D9, by go_num, by omega, rfl, rfl, HXz.out.tr hx9, ⟨own_base HO9.out (HXz.out.size), fun x hx => HOy.out.2 x (strike_mem hx)⟩, hD9.ext (Hxz.out.tr hx9), strike_both HM.out tag, strike_rise HI.out, fun f hf => ?_, Nat.le_trans (strike_len _ _) hl31, own_ext hx9 HPz.out⟩ ?_
                          · obtain ⟨x, hx, rfl⟩ := List.mem_map.1 hf
                            exact HW.out _ (List.mem_map.2 ⟨x, strike_mem hx, rfl⟩)
                          · simp [intOf]; omega
                · cases form
                  all_goals
                    as_aux_lemma =>
                      go_wp2_with (first
  | (go_at_call 36; (with_reducible refine (KF.out _ (by repeat (first | with_reducible exact Below.refl _ _ | with_reducible assumption | with_reducible refine ExtD ?_ | with_reducible refine ExtDN ?_ | with_reducible refine ExtA ?_ | (with_reducible refine ExtR ?_ ?_; (first | omega | (dsimp only; omega) | (simp; done) | (simp; omega))) | (with_reducible refine ExtS ?_ ?_; (first | omega | (dsimp only; omega) | (simp; done) | (simp; omega))) | with_reducible refine Ext.tr ?_ (by with_reducible assumption)))).mono ?_); rintro e w6 ⟨rfl, hx6⟩; have P14 : Blk w6 wr.heap.size 48 #[.int .i64 2, .int .i64 tag, .int .i64 v, .slice Bp pl.length cb] := BlkE (BlkN rfl) hx6; have a0 : ∀ ob, (w6.alloc ob).cell? ⟨wr.heap.size, 0, none⟩ = some (.int .i64 2) := fun ob => (BlkA (o := ob) P14).cell 0; have a1 : ∀ ob, (w6.alloc ob).cell? ⟨wr.heap.size, 1, none⟩ = some (.int .i64 tag) := fun ob => (BlkA (o := ob) P14).cell 1; have a2 : ∀ ob ob2, ((w6.alloc ob).alloc ob2).cell? ⟨wr.heap.size, 1, none⟩ = some (.int .i64 tag) := fun ob ob2 => (BlkA (o := ob2) (BlkA (o := ob) P14)).cell 1; have hz6 : wr.heap.size < w6.heap.size := P14.lt)
  | (go_at_call 31; (with_reducible refine (KNum.out _ (by repeat (first | with_reducible exact Below.refl _ _ | with_reducible assumption | with_reducible refine ExtD ?_ | with_reducible refine ExtDN ?_ | with_reducible refine ExtA ?_ | (with_reducible refine ExtR ?_ ?_; (first | omega | (dsimp only; omega) | (simp; done) | (simp; omega))) | (with_reducible refine ExtS ?_ ?_; (first | omega | (dsimp only; omega) | (simp; done) | (simp; omega))) | with_reducible refine Ext.tr ?_ (by with_reducible assumption)))).mono ?_); rintro e w9 ⟨rfl, ht9, hd9⟩; have Q14 := ht9.blk (BlkA (o := .cells #[.int .i64 tag, .bool false, .int .u64 (nm : Nat), .slice Af bs.length cf] 29) P14) HgB.out; have b0 := Q14.cell 0; have b1 := Q14.cell 1; have HD9 := Lib.hid hd9; have x0 : Ext wr (w6.alloc (.cells #[.int .i64 tag, .bool false, .int .u64 (nm : Nat), .slice Af bs.length cf] 29)) := (by repeat (first | with_reducible exact Below.refl _ _ | with_reducible assumption | with_reducible refine ExtD ?_ | with_reducible refine ExtDN ?_ | with_reducible refine ExtA ?_ | (with_reducible refine ExtR ?_ ?_; (first | omega | (dsimp only; omega) | (simp; done) | (simp; omega))) | (with_reducible refine ExtS ?_ ?_; (first | omega | (dsimp only; omega) | (simp; done) | (simp; omega))) | with_reducible refine Ext.tr ?_ (by with_reducible assumption))); have HT9 := Lib.hid (Turn.tr (x0.turn _) ht9); clear hd9 ht9 x0)
  | (go_at_call 32; (with_reducible refine (KInt.out _ (by repeat (first | with_reducible exact Below.refl _ _ | with_reducible assumption | with_reducible refine ExtD ?_ | with_reducible refine ExtDN ?_ | with_reducible refine ExtA ?_ | (with_reducible refine ExtR ?_ ?_; (first | omega | (dsimp only; omega) | (simp; done) | (simp; omega))) | (with_reducible refine ExtS ?_ ?_; (first | omega | (dsimp only; omega) | (simp; done) | (simp; omega))) | with_reducible refine Ext.tr ?_ (by with_reducible assumption)))).mono ?_); rintro e w9 ⟨rfl, ht9, hd9⟩; have Q14 := ht9.blk (BlkA (o := .cells #[.int .i64 tag, .bool false, .int .u64 (nm : Nat), .slice Af bs.length cf] 29) P14) HgB.out; have b0 := Q14.cell 0; have b1 := Q14.cell 1; have HD9 := Lib.hid hd9; have x0 : Ext wr (w6.alloc (.cells #[.int .i64 tag, .bool false, .int .u64 (nm : Nat), .slice Af bs.length cf] 29)) := (by repeat (first | with_reducible exact Below.refl _ _ | with_reducible assumption | with_reducible refine ExtD ?_ | with_reducible refine ExtDN ?_ | with_reducible refine ExtA ?_ | (with_reducible refine ExtR ?_ ?_; (first | omega | (dsimp only; omega) | (simp; done) | (simp; omega))) | (with_reducible refine ExtS ?_ ?_; (first | omega | (dsimp only; omega) | (simp; done) | (simp; omega))) | with_reducible refine Ext.tr ?_ (by with_reducible assumption))); have HT9 := Lib.hid (Turn.tr (x0.turn _) ht9); clear hd9 ht9 x0)
  | (go_at_call 37; (with_reducible refine (KZag.out _).mono ?_); rintro e w10 ⟨rfl, hx10⟩; have b1 := (BlkE Q14 hx10).cell 1)
  | (go_at_call 33; (with_reducible refine (KTxt.out _ (by repeat (first | with_reducible exact Below.refl _ _ | with_reducible assumption | with_reducible refine ExtD ?_ | with_reducible refine ExtDN ?_ | with_reducible refine ExtA ?_ | (with_reducible refine ExtR ?_ ?_; (first | omega | (dsimp only; omega) | (simp; done) | (simp; omega))) | (with_reducible refine ExtS ?_ ?_; (first | omega | (dsimp only; omega) | (simp; done) | (simp; omega))) | with_reducible refine Ext.tr ?_ (by with_reducible assumption)))).mono ?_); rintro e w9 ⟨rfl, ht9, hd9, hr9⟩; have Q14 := ht9.blk (BlkA (o := .cells #[] 5) (BlkA (o := .cells #[.int .i64 tag, .bool false, .int .u64 (nm : Nat), .slice Af bs.length cf] 29) P14)) HgB.out; have b1 := Q14.cell 1; have HD9 := Lib.hid hd9; have HR9 := Lib.hid hr9; have x0 : Ext wr ((w6.alloc (.cells #[.int .i64 tag, .bool false, .int .u64 (nm : Nat), .slice Af bs.length cf] 29)).alloc (.cells #[] 5)) := (by repeat (first | with_reducible exact Below.refl _ _ | with_reducible assumption | with_reducible refine ExtD ?_ | with_reducible refine ExtDN ?_ | with_reducible refine ExtA ?_ | (with_reducible refine ExtR ?_ ?_; (first | omega | (dsimp only; omega) | (simp; done) | (simp; omega))) | (with_reducible refine ExtS ?_ ?_; (first | omega | (dsimp only; omega) | (simp; done) | (simp; omega))) | with_reducible refine Ext.tr ?_ (by with_reducible assumption))); have HT9 := Lib.hid (Turn.tr (x0.turn _) ht9); clear hd9 ht9 hr9 x0)
  | (go_at_call 15; (first | (with_reducible refine (KSam.out _ _ _ _ _ HT9.out HR9.out).mono ?_) | (with_reducible refine (KSam.out _ HT9.out HR9.out).mono ?_)); rintro e w10 ⟨rfl, hx10⟩; have b1 := (BlkE Q14 hx10).cell 1))
                      have xz : Ext w9 w10 := (by repeat (first | with_reducible exact Below.refl _ _ | with_reducible assumption | with_reducible refine ExtD ?_ | with_reducible refine ExtDN ?_ | with_reducible refine ExtA ?_ | (with_reducible refine ExtR ?_ ?_; (first | omega | (dsimp only; omega) | (simp; done) | (simp; omega))) | (with_reducible refine ExtS ?_ ?_; (first | omega | (dsimp only; omega) | (simp; done) | (simp; omega))) | with_reducible refine Ext.tr ?_ (by with_reducible assumption)))
                      have T := HT9.out.tr (xz.turn [g, b])
                      have HOz := Lib.hid (HO.out.turnR HR.out T)
                      have HXz := Lib.hid (T.ext HX.out (fun r hr => by
  rcases List.mem_cons.1 hr with rfl | hr
  · exact HR.out.lo.1
  · rw [List.mem_singleton.1 hr]; exact HR.out.lo.2))
                      have HPz := Lib.hid (T.own HOp.out (fun r hr hc => HbR.out (by simp [Value.ownBlock] at hr; rw [hr]; exact hc)))
                      have Q15 : Blk w10 wr.heap.size 48 #[.int .i64 2, .int .i64 tag, .int .i64 v, .slice Bp pl.length cb] := BlkE Q14 xz
                      have HQ15 := Lib.hid Q15
                      have Hxz := Lib.hid xz
                      have HE0 : Hid ((w10.alloc (.cells #[] 29)).ownsRow w10.heap.size 29 4 (.slice (some ⟨w10.heap.size, 0, none⟩) 0 0) 0 (fsCells [])) := Lib.hid (own_new w10 _ #[] _ 0 (Nat.le_refl _) (by decide) rfl)
                      clear a0 a1 a2 T xz Q15
                      try clear b0
                      go_loopw [22, 211] (fun d22 d211 wy => LfR w10 lf tag d22 d211 wy) (fun _ d211 _ => lf.length - (intOf d211).toNat)
                      case atStart => exact ⟨0, _, 0, rfl, by omega, rfl, HE0.out, ExtA (Ext.rfl' _)⟩
                      case round =>
                        rename World => wy
                        obtain ⟨j, A9, c9, rfl, hj, rfl, ho9, hx9⟩ := hrel
                        have hOy := HOz.out.ext' hx9
                        have P16 := BlkE HQ15.out hx9
                        have p1 : wy.cell? ⟨wr.heap.size, 1, none⟩ = some (.int .i64 tag) := P16.cell 1
                        by_cases hjl : j < lf.length
                        · obtain ⟨bf, rfl, _, hcl⟩ := own_row_at hOy.1 (by omega)
                          obtain ⟨⟨⟨ut, ux, un, ub⟩, Au, cu⟩, hg⟩ : ∃ h, lf[j]? = some h := ⟨_, List.getElem?_eq_getElem hjl⟩
                          have u0 : wy.cell? ⟨bf, j * 4, none⟩ = some (.int .i64 ut) := (hcl (j * 4 + 0) _ (by rw [fsCells_at lf j 0 _ hg (by omega)]; rfl)).1
                          have u1 : wy.cell? ⟨bf, j * 4 + 1, none⟩ = some (.bool ux) := (hcl (j * 4 + 1) _ (by rw [fsCells_at lf j 1 _ hg (by omega)]; rfl)).1
                          have u2 : wy.cell? ⟨bf, j * 4 + 2, none⟩ = some (.int .u64 (un : Nat)) := (hcl (j * 4 + 2) _ (by rw [fsCells_at lf j 2 _ hg (by omega)]; rfl)).1
                          have u3 : wy.cell? ⟨bf, j * 4 + 3, none⟩ = some (.slice Au ub.length cu) := (hcl (j * 4 + 3) _ (by rw [fsCells_at lf j 3 _ hg (by omega)]; rfl)).1
                          have hsn := strike_snoc (t := tag) hg
                          have Hrf := Lib.hid fun (W : World) => rdF_new W _ ⟨ut, ux, un, ub⟩ Au cu rfl
                          have hsl := strike_len tag (lf.take j)
                          have HLj : Hid ((strike tag (lf.take j)).length ≤ 31) := Lib.hid (by rw [List.length_take] at hsl; omega)
                          have HO9 := Lib.hid ho9
                          clear hcl hg ho9 hOy hsl P16
                          by_cases htt : ut = tag
                          · have t0 : (ut != tag) = false := by simpa using htt
                            rw [if_pos htt] at hsn
                            have Hsn := Lib.hid hsn
                            clear htt hsn
                            go_wp2_with fail
                            go_quiet (fail)
                            go_wp2_with fail
                            refine And.intro ⟨j + 1, A9, c9, by go_num, by omega, by rw [Hsn.out], by rw [Hsn.out]; exact own_ext (by repeat (first | with_reducible exact Below.refl _ _ | with_reducible assumption | with_reducible refine ExtD ?_ | with_reducible refine ExtDN ?_ | with_reducible refine ExtA ?_ | (with_reducible refine ExtR ?_ ?_; (first | omega | (dsimp only; omega) | (simp; done) | (simp; omega))) | (with_reducible refine ExtS ?_ ?_; (first | omega | (dsimp only; omega) | (simp; done) | (simp; omega))) | with_reducible refine Ext.tr ?_ (by with_reducible assumption))) HO9.out, (by repeat (first | with_reducible exact Below.refl _ _ | with_reducible assumption | with_reducible refine ExtD ?_ | with_reducible refine ExtDN ?_ | with_reducible refine ExtA ?_ | (with_reducible refine ExtR ?_ ?_; (first | omega | (dsimp only; omega) | (simp; done) | (simp; omega))) | (with_reducible refine ExtS ?_ ?_; (first | omega | (dsimp only; omega) | (simp; done) | (simp; omega))) | with_reducible refine Ext.tr ?_ (by with_reducible assumption)))⟩ ?_
                            simp [intOf]; omega
                          · have t0 : (ut != tag) = true := by simpa using htt
                            rw [if_neg htt] at hsn
                            have Hsn := Lib.hid hsn
                            clear htt hsn
                            have v0 : wy.drew.cell? ⟨bf, j * 4, none⟩ = some (.int .i64 ut) := u0
                            go_wp2_with fail
                            go_quiet (fail)
                            go_wp2_with (change wpList _ _ _ (⟨some 228, _, _, _, _, _⟩ :: _) _ _; refine wpFd_append rfl (.tmp 222) (.tmp 227) rfl w10.heap.size (Nat.le_trans hx9.size (Below.size (B := wy.heap.size) (w := wy) (by repeat (first | with_reducible exact Below.refl _ _ | with_reducible assumption | with_reducible refine ExtD ?_ | with_reducible refine ExtDN ?_ | with_reducible refine ExtA ?_ | (with_reducible refine ExtR ?_ ?_; (first | omega | (dsimp only; omega) | (simp; done) | (simp; omega))) | (with_reducible refine ExtS ?_ ?_; (first | omega | (dsimp only; omega) | (simp; done) | (simp; omega))) | with_reducible refine Ext.tr ?_ (by with_reducible assumption))))) rfl (own_ext (w := wy) (by repeat (first | with_reducible exact Below.refl _ _ | with_reducible assumption | with_reducible refine ExtD ?_ | with_reducible refine ExtDN ?_ | with_reducible refine ExtA ?_ | (with_reducible refine ExtR ?_ ?_; (first | omega | (dsimp only; omega) | (simp; done) | (simp; omega))) | (with_reducible refine ExtS ?_ ?_; (first | omega | (dsimp only; omega) | (simp; done) | (simp; omega))) | with_reducible refine Ext.tr ?_ (by with_reducible assumption))) HO9.out) rfl (Hrf.out _) (by have := HLj.out; simp; omega) ?_; intro A10 n10 c10 w11 hn10 ho10 ht10 hb10; have O10 := Lib.hid ho10; clear ho10)
                            obtain rfl : n10 = (strike tag (lf.take j)).length + 1 := by rw [hn10.out]; rfl
                            refine And.intro ⟨j + 1, A10, c10, by go_num, by omega, by rw [Hsn.out, List.length_append]; rfl, by rw [Hsn.out, List.length_append]; exact O10.out, ?_⟩ ?_
                            · exact ht10.ext (hx9.tr (by repeat (first | with_reducible exact Below.refl _ _ | with_reducible assumption | with_reducible refine ExtD ?_ | with_reducible refine ExtDN ?_ | with_reducible refine ExtA ?_ | (with_reducible refine ExtR ?_ ?_; (first | omega | (dsimp only; omega) | (simp; done) | (simp; omega))) | (with_reducible refine ExtS ?_ ?_; (first | omega | (dsimp only; omega) | (simp; done) | (simp; omega))) | with_reducible refine Ext.tr ?_ (by with_reducible assumption)))) fun r hr => (HO9.out.lt r (own_blkOf hr)).1
                            · simp [intOf]; omega
                        · obtain rfl : j = lf.length := by omega
                          rw [List.take_length] at ho9 ⊢
                          have HO9 := Lib.hid ho9
                          have HOy := Lib.hid hOy
                          clear ho9 hOy P16
                          go_wp2_with fail
                          obtain ⟨D9, hD9⟩ := HD9.out
                          refine And.intro ⟨k + 1, A9, c9, strike tag lf, _, strike tag hr, D9, by go_num, by omega, rfl, rfl, HXz.out.tr hx9, ⟨own_base HO9.out (HXz.out.size), fun x hx => HOy.out.2 x (strike_mem hx)⟩, hD9.ext (Hxz.out.tr hx9), strike_both HM.out tag, strike_rise HI.out, fun f hf => ?_, Nat.le_trans (strike_len _ _) hl31, own_ext hx9 HPz.out⟩ ?_
                          · obtain ⟨x, hx, rfl⟩ := List.mem_map.1 hf
                            exact HW.out _ (List.mem_map.2 ⟨x, strike_mem hx, rfl⟩)
                          · simp [intOf]; omega
              | true =>
                have KNum : Hid (∀ W, Ext wr W → Calls Try.prog 31 #[.pointer (some ⟨g, 0, none⟩), .int .i64 tag] W fun e w' => e = .returned (.int .u64 0) ∧ Turn [g, b] W w' ∧ ∃ D', RdX w' w.heap.size g b (strike tag hr) (if true = true then 33 else 0) D') := Lib.hid fun W hx => by
                  have := rnum_any W w.heap.size g b hr _ D8 tag (HR.out.ext hx) hIt
                  rw [(take_wrongN false (if form = true then 33 else 0) hy (fun h => Bool.noConfusion h)).1, (take_wrongN false (if form = true then 33 else 0) hy (fun h => Bool.noConfusion h)).2] at this
                  exact this
                have KInt : Hid (∀ W, Ext wr W → Calls Try.prog 32 #[.pointer (some ⟨g, 0, none⟩), .int .i64 tag] W fun e w' => e = .returned (.int .i64 0) ∧ Turn [g, b] W w' ∧ ∃ D', RdX w' w.heap.size g b (strike tag hr) (if true = true then 33 else 0) D') := Lib.hid fun W hx => by
                  have := rint_any W w.heap.size g b hr _ D8 tag (HR.out.ext hx) hIt (by rw [(take_wrongN false 0 hy (fun h => Bool.noConfusion h)).1]; exact (by decide))
                  rw [(take_wrongN false (if form = true then 33 else 0) hy (fun h => Bool.noConfusion h)).1, (take_wrongN false (if form = true then 33 else 0) hy (fun h => Bool.noConfusion h)).2] at this
                  exact this
                have KTxt : Hid (∀ W, Ext wr W → Calls Try.prog 33 #[.pointer (some ⟨g, 0, none⟩), .int .i64 tag] W fun e w' => e = .returned (.slice Ay bs.length cy) ∧ Turn [g, b] W w' ∧ (∃ D', RdX w' w.heap.size g b (strike tag hr) (if form = true then 33 else 0) D') ∧ Rd w' Ay bs.length (u8s bs)) := Lib.hid fun W hx => by
                  have := rtext_any W w.heap.size g b hr _ D8 tag (HR.out.ext hx) hIt
                  rw [(take_hitN true (if form = true then 33 else 0) hy rfl).1, (take_hitN true (if form = true then 33 else 0) hy rfl).2] at this
                  exact this.mono fun e w' ⟨h1, h2, h3⟩ => ⟨h1, h2, h3, rd_own (HRw.out W w' hx h2)⟩
                have KZag : Hid (∀ W, Calls Try.prog 37 #[.int .u64 0] W fun e w' => e = .returned (.int .i64 0) ∧ Ext W w') := Lib.hid fun W => rzag_any 0 (by decide) W
                have KSam : Hid (∀ (W : World), Turn [g, b] wr W → Rd W Ay bs.length (u8s bs) → Calls Try.prog 15 #[.slice Ay bs.length cy, .slice Af bs.length cf] W fun e w' => e = .returned (.bool true) ∧ Ext W w') := Lib.hid fun W T h => same_yes Ay Af bs.length cy bs.length cf bs W h (rd_own (HOw.out W T)) hbl
                clear hf hy hxm hym hxt hyt hbl
                rcases hkd with rfl | rfl | rfl
                · cases form
                  all_goals
                    as_aux_lemma =>
                      go_wp2_with (first
  | (go_at_call 36; (with_reducible refine (KF.out _ (by repeat (first | with_reducible exact Below.refl _ _ | with_reducible assumption | with_reducible refine ExtD ?_ | with_reducible refine ExtDN ?_ | with_reducible refine ExtA ?_ | (with_reducible refine ExtR ?_ ?_; (first | omega | (dsimp only; omega) | (simp; done) | (simp; omega))) | (with_reducible refine ExtS ?_ ?_; (first | omega | (dsimp only; omega) | (simp; done) | (simp; omega))) | with_reducible refine Ext.tr ?_ (by with_reducible assumption)))).mono ?_); rintro e w6 ⟨rfl, hx6⟩; have P14 : Blk w6 wr.heap.size 48 #[.int .i64 0, .int .i64 tag, .int .i64 v, .slice Bp pl.length cb] := BlkE (BlkN rfl) hx6; have a0 : ∀ ob, (w6.alloc ob).cell? ⟨wr.heap.size, 0, none⟩ = some (.int .i64 0) := fun ob => (BlkA (o := ob) P14).cell 0; have a1 : ∀ ob, (w6.alloc ob).cell? ⟨wr.heap.size, 1, none⟩ = some (.int .i64 tag) := fun ob => (BlkA (o := ob) P14).cell 1; have a2 : ∀ ob ob2, ((w6.alloc ob).alloc ob2).cell? ⟨wr.heap.size, 1, none⟩ = some (.int .i64 tag) := fun ob ob2 => (BlkA (o := ob2) (BlkA (o := ob) P14)).cell 1; have hz6 : wr.heap.size < w6.heap.size := P14.lt)
  | (go_at_call 31; (with_reducible refine (KNum.out _ (by repeat (first | with_reducible exact Below.refl _ _ | with_reducible assumption | with_reducible refine ExtD ?_ | with_reducible refine ExtDN ?_ | with_reducible refine ExtA ?_ | (with_reducible refine ExtR ?_ ?_; (first | omega | (dsimp only; omega) | (simp; done) | (simp; omega))) | (with_reducible refine ExtS ?_ ?_; (first | omega | (dsimp only; omega) | (simp; done) | (simp; omega))) | with_reducible refine Ext.tr ?_ (by with_reducible assumption)))).mono ?_); rintro e w9 ⟨rfl, ht9, hd9⟩; have Q14 := ht9.blk (BlkA (o := .cells #[.int .i64 tag, .bool true, .int .u64 (nm : Nat), .slice Af bs.length cf] 29) P14) HgB.out; have b0 := Q14.cell 0; have b1 := Q14.cell 1; have HD9 := Lib.hid hd9; have x0 : Ext wr (w6.alloc (.cells #[.int .i64 tag, .bool true, .int .u64 (nm : Nat), .slice Af bs.length cf] 29)) := (by repeat (first | with_reducible exact Below.refl _ _ | with_reducible assumption | with_reducible refine ExtD ?_ | with_reducible refine ExtDN ?_ | with_reducible refine ExtA ?_ | (with_reducible refine ExtR ?_ ?_; (first | omega | (dsimp only; omega) | (simp; done) | (simp; omega))) | (with_reducible refine ExtS ?_ ?_; (first | omega | (dsimp only; omega) | (simp; done) | (simp; omega))) | with_reducible refine Ext.tr ?_ (by with_reducible assumption))); have HT9 := Lib.hid (Turn.tr (x0.turn _) ht9); clear hd9 ht9 x0)
  | (go_at_call 32; (with_reducible refine (KInt.out _ (by repeat (first | with_reducible exact Below.refl _ _ | with_reducible assumption | with_reducible refine ExtD ?_ | with_reducible refine ExtDN ?_ | with_reducible refine ExtA ?_ | (with_reducible refine ExtR ?_ ?_; (first | omega | (dsimp only; omega) | (simp; done) | (simp; omega))) | (with_reducible refine ExtS ?_ ?_; (first | omega | (dsimp only; omega) | (simp; done) | (simp; omega))) | with_reducible refine Ext.tr ?_ (by with_reducible assumption)))).mono ?_); rintro e w9 ⟨rfl, ht9, hd9⟩; have Q14 := ht9.blk (BlkA (o := .cells #[.int .i64 tag, .bool true, .int .u64 (nm : Nat), .slice Af bs.length cf] 29) P14) HgB.out; have b0 := Q14.cell 0; have b1 := Q14.cell 1; have HD9 := Lib.hid hd9; have x0 : Ext wr (w6.alloc (.cells #[.int .i64 tag, .bool true, .int .u64 (nm : Nat), .slice Af bs.length cf] 29)) := (by repeat (first | with_reducible exact Below.refl _ _ | with_reducible assumption | with_reducible refine ExtD ?_ | with_reducible refine ExtDN ?_ | with_reducible refine ExtA ?_ | (with_reducible refine ExtR ?_ ?_; (first | omega | (dsimp only; omega) | (simp; done) | (simp; omega))) | (with_reducible refine ExtS ?_ ?_; (first | omega | (dsimp only; omega) | (simp; done) | (simp; omega))) | with_reducible refine Ext.tr ?_ (by with_reducible assumption))); have HT9 := Lib.hid (Turn.tr (x0.turn _) ht9); clear hd9 ht9 x0)
  | (go_at_call 37; (with_reducible refine (KZag.out _).mono ?_); rintro e w10 ⟨rfl, hx10⟩; have b1 := (BlkE Q14 hx10).cell 1)
  | (go_at_call 33; (with_reducible refine (KTxt.out _ (by repeat (first | with_reducible exact Below.refl _ _ | with_reducible assumption | with_reducible refine ExtD ?_ | with_reducible refine ExtDN ?_ | with_reducible refine ExtA ?_ | (with_reducible refine ExtR ?_ ?_; (first | omega | (dsimp only; omega) | (simp; done) | (simp; omega))) | (with_reducible refine ExtS ?_ ?_; (first | omega | (dsimp only; omega) | (simp; done) | (simp; omega))) | with_reducible refine Ext.tr ?_ (by with_reducible assumption)))).mono ?_); rintro e w9 ⟨rfl, ht9, hd9, hr9⟩; have Q14 := ht9.blk (BlkA (o := .cells #[] 5) (BlkA (o := .cells #[.int .i64 tag, .bool true, .int .u64 (nm : Nat), .slice Af bs.length cf] 29) P14)) HgB.out; have b1 := Q14.cell 1; have HD9 := Lib.hid hd9; have HR9 := Lib.hid hr9; have x0 : Ext wr ((w6.alloc (.cells #[.int .i64 tag, .bool true, .int .u64 (nm : Nat), .slice Af bs.length cf] 29)).alloc (.cells #[] 5)) := (by repeat (first | with_reducible exact Below.refl _ _ | with_reducible assumption | with_reducible refine ExtD ?_ | with_reducible refine ExtDN ?_ | with_reducible refine ExtA ?_ | (with_reducible refine ExtR ?_ ?_; (first | omega | (dsimp only; omega) | (simp; done) | (simp; omega))) | (with_reducible refine ExtS ?_ ?_; (first | omega | (dsimp only; omega) | (simp; done) | (simp; omega))) | with_reducible refine Ext.tr ?_ (by with_reducible assumption))); have HT9 := Lib.hid (Turn.tr (x0.turn _) ht9); clear hd9 ht9 hr9 x0)
  | (go_at_call 15; (first | (with_reducible refine (KSam.out _ _ _ _ _ HT9.out HR9.out).mono ?_) | (with_reducible refine (KSam.out _ HT9.out HR9.out).mono ?_)); rintro e w10 ⟨rfl, hx10⟩; have b1 := (BlkE Q14 hx10).cell 1))
                      have xz : Ext w9 w9 := (by repeat (first | with_reducible exact Below.refl _ _ | with_reducible assumption | with_reducible refine ExtD ?_ | with_reducible refine ExtDN ?_ | with_reducible refine ExtA ?_ | (with_reducible refine ExtR ?_ ?_; (first | omega | (dsimp only; omega) | (simp; done) | (simp; omega))) | (with_reducible refine ExtS ?_ ?_; (first | omega | (dsimp only; omega) | (simp; done) | (simp; omega))) | with_reducible refine Ext.tr ?_ (by with_reducible assumption)))
                      have T := HT9.out.tr (xz.turn [g, b])
                      have HOz := Lib.hid (HO.out.turnR HR.out T)
                      have HXz := Lib.hid (T.ext HX.out (fun r hr => by
  rcases List.mem_cons.1 hr with rfl | hr
  · exact HR.out.lo.1
  · rw [List.mem_singleton.1 hr]; exact HR.out.lo.2))
                      have HPz := Lib.hid (T.own HOp.out (fun r hr hc => HbR.out (by simp [Value.ownBlock] at hr; rw [hr]; exact hc)))
                      have Q15 : Blk w9 wr.heap.size 48 #[.int .i64 0, .int .i64 tag, .int .i64 v, .slice Bp pl.length cb] := BlkE Q14 xz
                      have HQ15 := Lib.hid Q15
                      have Hxz := Lib.hid xz
                      have HE0 : Hid ((w9.alloc (.cells #[] 29)).ownsRow w9.heap.size 29 4 (.slice (some ⟨w9.heap.size, 0, none⟩) 0 0) 0 (fsCells [])) := Lib.hid (own_new w9 _ #[] _ 0 (Nat.le_refl _) (by decide) rfl)
                      clear a0 a1 a2 T xz Q15
                      try clear b0
                      go_loopw [22, 211] (fun d22 d211 wy => LfR w9 lf tag d22 d211 wy) (fun _ d211 _ => lf.length - (intOf d211).toNat)
                      case atStart => exact ⟨0, _, 0, rfl, by omega, rfl, HE0.out, ExtA (Ext.rfl' _)⟩
                      case round =>
                        rename World => wy
                        obtain ⟨j, A9, c9, rfl, hj, rfl, ho9, hx9⟩ := hrel
                        have hOy := HOz.out.ext' hx9
                        have P16 := BlkE HQ15.out hx9
                        have p1 : wy.cell? ⟨wr.heap.size, 1, none⟩ = some (.int .i64 tag) := P16.cell 1
                        by_cases hjl : j < lf.length
                        · obtain ⟨bf, rfl, _, hcl⟩ := own_row_at hOy.1 (by omega)
                          obtain ⟨⟨⟨ut, ux, un, ub⟩, Au, cu⟩, hg⟩ : ∃ h, lf[j]? = some h := ⟨_, List.getElem?_eq_getElem hjl⟩
                          have u0 : wy.cell? ⟨bf, j * 4, none⟩ = some (.int .i64 ut) := (hcl (j * 4 + 0) _ (by rw [fsCells_at lf j 0 _ hg (by omega)]; rfl)).1
                          have u1 : wy.cell? ⟨bf, j * 4 + 1, none⟩ = some (.bool ux) := (hcl (j * 4 + 1) _ (by rw [fsCells_at lf j 1 _ hg (by omega)]; rfl)).1
                          have u2 : wy.cell? ⟨bf, j * 4 + 2, none⟩ = some (.int .u64 (un : Nat)) := (hcl (j * 4 + 2) _ (by rw [fsCells_at lf j 2 _ hg (by omega)]; rfl)).1
                          have u3 : wy.cell? ⟨bf, j * 4 + 3, none⟩ = some (.slice Au ub.length cu) := (hcl (j * 4 + 3) _ (by rw [fsCells_at lf j 3 _ hg (by omega)]; rfl)).1
                          have hsn := strike_snoc (t := tag) hg
                          have Hrf := Lib.hid fun (W : World) => rdF_new W _ ⟨ut, ux, un, ub⟩ Au cu rfl
                          have hsl := strike_len tag (lf.take j)
                          have HLj : Hid ((strike tag (lf.take j)).length ≤ 31) := Lib.hid (by rw [List.length_take] at hsl; omega)
                          have HO9 := Lib.hid ho9
                          clear hcl hg ho9 hOy hsl P16
                          by_cases htt : ut = tag
                          · have t0 : (ut != tag) = false := by simpa using htt
                            rw [if_pos htt] at hsn
                            have Hsn := Lib.hid hsn
                            clear htt hsn
                            go_wp2_with fail
                            go_quiet (fail)
                            go_wp2_with fail
                            refine And.intro ⟨j + 1, A9, c9, by go_num, by omega, by rw [Hsn.out], by rw [Hsn.out]; exact own_ext (by repeat (first | with_reducible exact Below.refl _ _ | with_reducible assumption | with_reducible refine ExtD ?_ | with_reducible refine ExtDN ?_ | with_reducible refine ExtA ?_ | (with_reducible refine ExtR ?_ ?_; (first | omega | (dsimp only; omega) | (simp; done) | (simp; omega))) | (with_reducible refine ExtS ?_ ?_; (first | omega | (dsimp only; omega) | (simp; done) | (simp; omega))) | with_reducible refine Ext.tr ?_ (by with_reducible assumption))) HO9.out, (by repeat (first | with_reducible exact Below.refl _ _ | with_reducible assumption | with_reducible refine ExtD ?_ | with_reducible refine ExtDN ?_ | with_reducible refine ExtA ?_ | (with_reducible refine ExtR ?_ ?_; (first | omega | (dsimp only; omega) | (simp; done) | (simp; omega))) | (with_reducible refine ExtS ?_ ?_; (first | omega | (dsimp only; omega) | (simp; done) | (simp; omega))) | with_reducible refine Ext.tr ?_ (by with_reducible assumption)))⟩ ?_
                            simp [intOf]; omega
                          · have t0 : (ut != tag) = true := by simpa using htt
                            rw [if_neg htt] at hsn
                            have Hsn := Lib.hid hsn
                            clear htt hsn
                            have v0 : wy.drew.cell? ⟨bf, j * 4, none⟩ = some (.int .i64 ut) := u0
                            go_wp2_with fail
                            go_quiet (fail)
                            go_wp2_with (change wpList _ _ _ (⟨some 228, _, _, _, _, _⟩ :: _) _ _; refine wpFd_append rfl (.tmp 222) (.tmp 227) rfl w9.heap.size (Nat.le_trans hx9.size (Below.size (B := wy.heap.size) (w := wy) (by repeat (first | with_reducible exact Below.refl _ _ | with_reducible assumption | with_reducible refine ExtD ?_ | with_reducible refine ExtDN ?_ | with_reducible refine ExtA ?_ | (with_reducible refine ExtR ?_ ?_; (first | omega | (dsimp only; omega) | (simp; done) | (simp; omega))) | (with_reducible refine ExtS ?_ ?_; (first | omega | (dsimp only; omega) | (simp; done) | (simp; omega))) | with_reducible refine Ext.tr ?_ (by with_reducible assumption))))) rfl (own_ext (w := wy) (by repeat (first | with_reducible exact Below.refl _ _ | with_reducible assumption | with_reducible refine ExtD ?_ | with_reducible refine ExtDN ?_ | with_reducible refine ExtA ?_ | (with_reducible refine ExtR ?_ ?_; (first | omega | (dsimp only; omega) | (simp; done) | (simp; omega))) | (with_reducible refine ExtS ?_ ?_; (first | omega | (dsimp only; omega) | (simp; done) | (simp; omega))) | with_reducible refine Ext.tr ?_ (by with_reducible assumption))) HO9.out) rfl (Hrf.out _) (by have := HLj.out; simp; omega) ?_; intro A10 n10 c10 w11 hn10 ho10 ht10 hb10; have O10 := Lib.hid ho10; clear ho10)
                            obtain rfl : n10 = (strike tag (lf.take j)).length + 1 := by rw [hn10.out]; rfl
                            refine And.intro ⟨j + 1, A10, c10, by go_num, by omega, by rw [Hsn.out, List.length_append]; rfl, by rw [Hsn.out, List.length_append]; exact O10.out, ?_⟩ ?_
                            · exact ht10.ext (hx9.tr (by repeat (first | with_reducible exact Below.refl _ _ | with_reducible assumption | with_reducible refine ExtD ?_ | with_reducible refine ExtDN ?_ | with_reducible refine ExtA ?_ | (with_reducible refine ExtR ?_ ?_; (first | omega | (dsimp only; omega) | (simp; done) | (simp; omega))) | (with_reducible refine ExtS ?_ ?_; (first | omega | (dsimp only; omega) | (simp; done) | (simp; omega))) | with_reducible refine Ext.tr ?_ (by with_reducible assumption)))) fun r hr => (HO9.out.lt r (own_blkOf hr)).1
                            · simp [intOf]; omega
                        · obtain rfl : j = lf.length := by omega
                          rw [List.take_length] at ho9 ⊢
                          have HO9 := Lib.hid ho9
                          have HOy := Lib.hid hOy
                          clear ho9 hOy P16
                          go_wp2_with fail
                          obtain ⟨D9, hD9⟩ := HD9.out
                          refine And.intro ⟨k + 1, A9, c9, strike tag lf, _, strike tag hr, D9, by go_num, by omega, rfl, rfl, HXz.out.tr hx9, ⟨own_base HO9.out (HXz.out.size), fun x hx => HOy.out.2 x (strike_mem hx)⟩, hD9.ext (Hxz.out.tr hx9), strike_both HM.out tag, strike_rise HI.out, fun f hf => ?_, Nat.le_trans (strike_len _ _) hl31, own_ext hx9 HPz.out⟩ ?_
                          · obtain ⟨x, hx, rfl⟩ := List.mem_map.1 hf
                            exact HW.out _ (List.mem_map.2 ⟨x, strike_mem hx, rfl⟩)
                          · simp [intOf]; omega
                · cases form
                  all_goals
                    as_aux_lemma =>
                      go_wp2_with (first
  | (go_at_call 36; (with_reducible refine (KF.out _ (by repeat (first | with_reducible exact Below.refl _ _ | with_reducible assumption | with_reducible refine ExtD ?_ | with_reducible refine ExtDN ?_ | with_reducible refine ExtA ?_ | (with_reducible refine ExtR ?_ ?_; (first | omega | (dsimp only; omega) | (simp; done) | (simp; omega))) | (with_reducible refine ExtS ?_ ?_; (first | omega | (dsimp only; omega) | (simp; done) | (simp; omega))) | with_reducible refine Ext.tr ?_ (by with_reducible assumption)))).mono ?_); rintro e w6 ⟨rfl, hx6⟩; have P14 : Blk w6 wr.heap.size 48 #[.int .i64 1, .int .i64 tag, .int .i64 v, .slice Bp pl.length cb] := BlkE (BlkN rfl) hx6; have a0 : ∀ ob, (w6.alloc ob).cell? ⟨wr.heap.size, 0, none⟩ = some (.int .i64 1) := fun ob => (BlkA (o := ob) P14).cell 0; have a1 : ∀ ob, (w6.alloc ob).cell? ⟨wr.heap.size, 1, none⟩ = some (.int .i64 tag) := fun ob => (BlkA (o := ob) P14).cell 1; have a2 : ∀ ob ob2, ((w6.alloc ob).alloc ob2).cell? ⟨wr.heap.size, 1, none⟩ = some (.int .i64 tag) := fun ob ob2 => (BlkA (o := ob2) (BlkA (o := ob) P14)).cell 1; have hz6 : wr.heap.size < w6.heap.size := P14.lt)
  | (go_at_call 31; (with_reducible refine (KNum.out _ (by repeat (first | with_reducible exact Below.refl _ _ | with_reducible assumption | with_reducible refine ExtD ?_ | with_reducible refine ExtDN ?_ | with_reducible refine ExtA ?_ | (with_reducible refine ExtR ?_ ?_; (first | omega | (dsimp only; omega) | (simp; done) | (simp; omega))) | (with_reducible refine ExtS ?_ ?_; (first | omega | (dsimp only; omega) | (simp; done) | (simp; omega))) | with_reducible refine Ext.tr ?_ (by with_reducible assumption)))).mono ?_); rintro e w9 ⟨rfl, ht9, hd9⟩; have Q14 := ht9.blk (BlkA (o := .cells #[.int .i64 tag, .bool true, .int .u64 (nm : Nat), .slice Af bs.length cf] 29) P14) HgB.out; have b0 := Q14.cell 0; have b1 := Q14.cell 1; have HD9 := Lib.hid hd9; have x0 : Ext wr (w6.alloc (.cells #[.int .i64 tag, .bool true, .int .u64 (nm : Nat), .slice Af bs.length cf] 29)) := (by repeat (first | with_reducible exact Below.refl _ _ | with_reducible assumption | with_reducible refine ExtD ?_ | with_reducible refine ExtDN ?_ | with_reducible refine ExtA ?_ | (with_reducible refine ExtR ?_ ?_; (first | omega | (dsimp only; omega) | (simp; done) | (simp; omega))) | (with_reducible refine ExtS ?_ ?_; (first | omega | (dsimp only; omega) | (simp; done) | (simp; omega))) | with_reducible refine Ext.tr ?_ (by with_reducible assumption))); have HT9 := Lib.hid (Turn.tr (x0.turn _) ht9); clear hd9 ht9 x0)
  | (go_at_call 32; (with_reducible refine (KInt.out _ (by repeat (first | with_reducible exact Below.refl _ _ | with_reducible assumption | with_reducible refine ExtD ?_ | with_reducible refine ExtDN ?_ | with_reducible refine ExtA ?_ | (with_reducible refine ExtR ?_ ?_; (first | omega | (dsimp only; omega) | (simp; done) | (simp; omega))) | (with_reducible refine ExtS ?_ ?_; (first | omega | (dsimp only; omega) | (simp; done) | (simp; omega))) | with_reducible refine Ext.tr ?_ (by with_reducible assumption)))).mono ?_); rintro e w9 ⟨rfl, ht9, hd9⟩; have Q14 := ht9.blk (BlkA (o := .cells #[.int .i64 tag, .bool true, .int .u64 (nm : Nat), .slice Af bs.length cf] 29) P14) HgB.out; have b0 := Q14.cell 0; have b1 := Q14.cell 1; have HD9 := Lib.hid hd9; have x0 : Ext wr (w6.alloc (.cells #[.int .i64 tag, .bool true, .int .u64 (nm : Nat), .slice Af bs.length cf] 29)) := (by repeat (first | with_reducible exact Below.refl _ _ | with_reducible assumption | with_reducible refine ExtD ?_ | with_reducible refine ExtDN ?_ | with_reducible refine ExtA ?_ | (with_reducible refine ExtR ?_ ?_; (first | omega | (dsimp only; omega) | (simp; done) | (simp; omega))) | (with_reducible refine ExtS ?_ ?_; (first | omega | (dsimp only; omega) | (simp; done) | (simp; omega))) | with_reducible refine Ext.tr ?_ (by with_reducible assumption))); have HT9 := Lib.hid (Turn.tr (x0.turn _) ht9); clear hd9 ht9 x0)
  | (go_at_call 37; (with_reducible refine (KZag.out _).mono ?_); rintro e w10 ⟨rfl, hx10⟩; have b1 := (BlkE Q14 hx10).cell 1)
  | (go_at_call 33; (with_reducible refine (KTxt.out _ (by repeat (first | with_reducible exact Below.refl _ _ | with_reducible assumption | with_reducible refine ExtD ?_ | with_reducible refine ExtDN ?_ | with_reducible refine ExtA ?_ | (with_reducible refine ExtR ?_ ?_; (first | omega | (dsimp only; omega) | (simp; done) | (simp; omega))) | (with_reducible refine ExtS ?_ ?_; (first | omega | (dsimp only; omega) | (simp; done) | (simp; omega))) | with_reducible refine Ext.tr ?_ (by with_reducible assumption)))).mono ?_); rintro e w9 ⟨rfl, ht9, hd9, hr9⟩; have Q14 := ht9.blk (BlkA (o := .cells #[] 5) (BlkA (o := .cells #[.int .i64 tag, .bool true, .int .u64 (nm : Nat), .slice Af bs.length cf] 29) P14)) HgB.out; have b1 := Q14.cell 1; have HD9 := Lib.hid hd9; have HR9 := Lib.hid hr9; have x0 : Ext wr ((w6.alloc (.cells #[.int .i64 tag, .bool true, .int .u64 (nm : Nat), .slice Af bs.length cf] 29)).alloc (.cells #[] 5)) := (by repeat (first | with_reducible exact Below.refl _ _ | with_reducible assumption | with_reducible refine ExtD ?_ | with_reducible refine ExtDN ?_ | with_reducible refine ExtA ?_ | (with_reducible refine ExtR ?_ ?_; (first | omega | (dsimp only; omega) | (simp; done) | (simp; omega))) | (with_reducible refine ExtS ?_ ?_; (first | omega | (dsimp only; omega) | (simp; done) | (simp; omega))) | with_reducible refine Ext.tr ?_ (by with_reducible assumption))); have HT9 := Lib.hid (Turn.tr (x0.turn _) ht9); clear hd9 ht9 hr9 x0)
  | (go_at_call 15; (first | (with_reducible refine (KSam.out _ _ _ _ _ HT9.out HR9.out).mono ?_) | (with_reducible refine (KSam.out _ HT9.out HR9.out).mono ?_)); rintro e w10 ⟨rfl, hx10⟩; have b1 := (BlkE Q14 hx10).cell 1))
                      have xz : Ext w9 w10 := (by repeat (first | with_reducible exact Below.refl _ _ | with_reducible assumption | with_reducible refine ExtD ?_ | with_reducible refine ExtDN ?_ | with_reducible refine ExtA ?_ | (with_reducible refine ExtR ?_ ?_; (first | omega | (dsimp only; omega) | (simp; done) | (simp; omega))) | (with_reducible refine ExtS ?_ ?_; (first | omega | (dsimp only; omega) | (simp; done) | (simp; omega))) | with_reducible refine Ext.tr ?_ (by with_reducible assumption)))
                      have T := HT9.out.tr (xz.turn [g, b])
                      have HOz := Lib.hid (HO.out.turnR HR.out T)
                      have HXz := Lib.hid (T.ext HX.out (fun r hr => by
  rcases List.mem_cons.1 hr with rfl | hr
  · exact HR.out.lo.1
  · rw [List.mem_singleton.1 hr]; exact HR.out.lo.2))
                      have HPz := Lib.hid (T.own HOp.out (fun r hr hc => HbR.out (by simp [Value.ownBlock] at hr; rw [hr]; exact hc)))
                      have Q15 : Blk w10 wr.heap.size 48 #[.int .i64 1, .int .i64 tag, .int .i64 v, .slice Bp pl.length cb] := BlkE Q14 xz
                      have HQ15 := Lib.hid Q15
                      have Hxz := Lib.hid xz
                      have HE0 : Hid ((w10.alloc (.cells #[] 29)).ownsRow w10.heap.size 29 4 (.slice (some ⟨w10.heap.size, 0, none⟩) 0 0) 0 (fsCells [])) := Lib.hid (own_new w10 _ #[] _ 0 (Nat.le_refl _) (by decide) rfl)
                      clear a0 a1 a2 T xz Q15
                      try clear b0
                      go_loopw [22, 211] (fun d22 d211 wy => LfR w10 lf tag d22 d211 wy) (fun _ d211 _ => lf.length - (intOf d211).toNat)
                      case atStart => exact ⟨0, _, 0, rfl, by omega, rfl, HE0.out, ExtA (Ext.rfl' _)⟩
                      case round =>
                        rename World => wy
                        obtain ⟨j, A9, c9, rfl, hj, rfl, ho9, hx9⟩ := hrel
                        have hOy := HOz.out.ext' hx9
                        have P16 := BlkE HQ15.out hx9
                        have p1 : wy.cell? ⟨wr.heap.size, 1, none⟩ = some (.int .i64 tag) := P16.cell 1
                        by_cases hjl : j < lf.length
                        · obtain ⟨bf, rfl, _, hcl⟩ := own_row_at hOy.1 (by omega)
                          obtain ⟨⟨⟨ut, ux, un, ub⟩, Au, cu⟩, hg⟩ : ∃ h, lf[j]? = some h := ⟨_, List.getElem?_eq_getElem hjl⟩
                          have u0 : wy.cell? ⟨bf, j * 4, none⟩ = some (.int .i64 ut) := (hcl (j * 4 + 0) _ (by rw [fsCells_at lf j 0 _ hg (by omega)]; rfl)).1
                          have u1 : wy.cell? ⟨bf, j * 4 + 1, none⟩ = some (.bool ux) := (hcl (j * 4 + 1) _ (by rw [fsCells_at lf j 1 _ hg (by omega)]; rfl)).1
                          have u2 : wy.cell? ⟨bf, j * 4 + 2, none⟩ = some (.int .u64 (un : Nat)) := (hcl (j * 4 + 2) _ (by rw [fsCells_at lf j 2 _ hg (by omega)]; rfl)).1
                          have u3 : wy.cell? ⟨bf, j * 4 + 3, none⟩ = some (.slice Au ub.length cu) := (hcl (j * 4 + 3) _ (by rw [fsCells_at lf j 3 _ hg (by omega)]; rfl)).1
                          have hsn := strike_snoc (t := tag) hg
                          have Hrf := Lib.hid fun (W : World) => rdF_new W _ ⟨ut, ux, un, ub⟩ Au cu rfl
                          have hsl := strike_len tag (lf.take j)
                          have HLj : Hid ((strike tag (lf.take j)).length ≤ 31) := Lib.hid (by rw [List.length_take] at hsl; omega)
                          have HO9 := Lib.hid ho9
                          clear hcl hg ho9 hOy hsl P16
                          by_cases htt : ut = tag
                          · have t0 : (ut != tag) = false := by simpa using htt
                            rw [if_pos htt] at hsn
                            have Hsn := Lib.hid hsn
                            clear htt hsn
                            go_wp2_with fail
                            go_quiet (fail)
                            go_wp2_with fail
                            refine And.intro ⟨j + 1, A9, c9, by go_num, by omega, by rw [Hsn.out], by rw [Hsn.out]; exact own_ext (by repeat (first | with_reducible exact Below.refl _ _ | with_reducible assumption | with_reducible refine ExtD ?_ | with_reducible refine ExtDN ?_ | with_reducible refine ExtA ?_ | (with_reducible refine ExtR ?_ ?_; (first | omega | (dsimp only; omega) | (simp; done) | (simp; omega))) | (with_reducible refine ExtS ?_ ?_; (first | omega | (dsimp only; omega) | (simp; done) | (simp; omega))) | with_reducible refine Ext.tr ?_ (by with_reducible assumption))) HO9.out, (by repeat (first | with_reducible exact Below.refl _ _ | with_reducible assumption | with_reducible refine ExtD ?_ | with_reducible refine ExtDN ?_ | with_reducible refine ExtA ?_ | (with_reducible refine ExtR ?_ ?_; (first | omega | (dsimp only; omega) | (simp; done) | (simp; omega))) | (with_reducible refine ExtS ?_ ?_; (first | omega | (dsimp only; omega) | (simp; done) | (simp; omega))) | with_reducible refine Ext.tr ?_ (by with_reducible assumption)))⟩ ?_
                            simp [intOf]; omega
                          · have t0 : (ut != tag) = true := by simpa using htt
                            rw [if_neg htt] at hsn
                            have Hsn := Lib.hid hsn
                            clear htt hsn
                            have v0 : wy.drew.cell? ⟨bf, j * 4, none⟩ = some (.int .i64 ut) := u0
                            go_wp2_with fail
                            go_quiet (fail)
                            go_wp2_with (change wpList _ _ _ (⟨some 228, _, _, _, _, _⟩ :: _) _ _; refine wpFd_append rfl (.tmp 222) (.tmp 227) rfl w10.heap.size (Nat.le_trans hx9.size (Below.size (B := wy.heap.size) (w := wy) (by repeat (first | with_reducible exact Below.refl _ _ | with_reducible assumption | with_reducible refine ExtD ?_ | with_reducible refine ExtDN ?_ | with_reducible refine ExtA ?_ | (with_reducible refine ExtR ?_ ?_; (first | omega | (dsimp only; omega) | (simp; done) | (simp; omega))) | (with_reducible refine ExtS ?_ ?_; (first | omega | (dsimp only; omega) | (simp; done) | (simp; omega))) | with_reducible refine Ext.tr ?_ (by with_reducible assumption))))) rfl (own_ext (w := wy) (by repeat (first | with_reducible exact Below.refl _ _ | with_reducible assumption | with_reducible refine ExtD ?_ | with_reducible refine ExtDN ?_ | with_reducible refine ExtA ?_ | (with_reducible refine ExtR ?_ ?_; (first | omega | (dsimp only; omega) | (simp; done) | (simp; omega))) | (with_reducible refine ExtS ?_ ?_; (first | omega | (dsimp only; omega) | (simp; done) | (simp; omega))) | with_reducible refine Ext.tr ?_ (by with_reducible assumption))) HO9.out) rfl (Hrf.out _) (by have := HLj.out; simp; omega) ?_; intro A10 n10 c10 w11 hn10 ho10 ht10 hb10; have O10 := Lib.hid ho10; clear ho10)
                            obtain rfl : n10 = (strike tag (lf.take j)).length + 1 := by rw [hn10.out]; rfl
                            refine And.intro ⟨j + 1, A10, c10, by go_num, by omega, by rw [Hsn.out, List.length_append]; rfl, by rw [Hsn.out, List.length_append]; exact O10.out, ?_⟩ ?_
                            · exact ht10.ext (hx9.tr (by repeat (first | with_reducible exact Below.refl _ _ | with_reducible assumption | with_reducible refine ExtD ?_ | with_reducible refine ExtDN ?_ | with_reducible refine ExtA ?_ | (with_reducible refine ExtR ?_ ?_; (first | omega | (dsimp only; omega) | (simp; done) | (simp; omega))) | (with_reducible refine ExtS ?_ ?_; (first | omega | (dsimp only; omega) | (simp; done) | (simp; omega))) | with_reducible refine Ext.tr ?_ (by with_reducible assumption)))) fun r hr => (HO9.out.lt r (own_blkOf hr)).1
                            · simp [intOf]; omega
                        · obtain rfl : j = lf.length := by omega
                          rw [List.take_length] at ho9 ⊢
                          have HO9 := Lib.hid ho9
                          have HOy := Lib.hid hOy
                          clear ho9 hOy P16
                          go_wp2_with fail
                          obtain ⟨D9, hD9⟩ := HD9.out
                          refine And.intro ⟨k + 1, A9, c9, strike tag lf, _, strike tag hr, D9, by go_num, by omega, rfl, rfl, HXz.out.tr hx9, ⟨own_base HO9.out (HXz.out.size), fun x hx => HOy.out.2 x (strike_mem hx)⟩, hD9.ext (Hxz.out.tr hx9), strike_both HM.out tag, strike_rise HI.out, fun f hf => ?_, Nat.le_trans (strike_len _ _) hl31, own_ext hx9 HPz.out⟩ ?_
                          · obtain ⟨x, hx, rfl⟩ := List.mem_map.1 hf
                            exact HW.out _ (List.mem_map.2 ⟨x, strike_mem hx, rfl⟩)
                          · simp [intOf]; omega
                · cases form
                  all_goals
                    as_aux_lemma =>
                      go_wp2_with (first
  | (go_at_call 36; (with_reducible refine (KF.out _ (by repeat (first | with_reducible exact Below.refl _ _ | with_reducible assumption | with_reducible refine ExtD ?_ | with_reducible refine ExtDN ?_ | with_reducible refine ExtA ?_ | (with_reducible refine ExtR ?_ ?_; (first | omega | (dsimp only; omega) | (simp; done) | (simp; omega))) | (with_reducible refine ExtS ?_ ?_; (first | omega | (dsimp only; omega) | (simp; done) | (simp; omega))) | with_reducible refine Ext.tr ?_ (by with_reducible assumption)))).mono ?_); rintro e w6 ⟨rfl, hx6⟩; have P14 : Blk w6 wr.heap.size 48 #[.int .i64 2, .int .i64 tag, .int .i64 v, .slice Bp pl.length cb] := BlkE (BlkN rfl) hx6; have a0 : ∀ ob, (w6.alloc ob).cell? ⟨wr.heap.size, 0, none⟩ = some (.int .i64 2) := fun ob => (BlkA (o := ob) P14).cell 0; have a1 : ∀ ob, (w6.alloc ob).cell? ⟨wr.heap.size, 1, none⟩ = some (.int .i64 tag) := fun ob => (BlkA (o := ob) P14).cell 1; have a2 : ∀ ob ob2, ((w6.alloc ob).alloc ob2).cell? ⟨wr.heap.size, 1, none⟩ = some (.int .i64 tag) := fun ob ob2 => (BlkA (o := ob2) (BlkA (o := ob) P14)).cell 1; have hz6 : wr.heap.size < w6.heap.size := P14.lt)
  | (go_at_call 31; (with_reducible refine (KNum.out _ (by repeat (first | with_reducible exact Below.refl _ _ | with_reducible assumption | with_reducible refine ExtD ?_ | with_reducible refine ExtDN ?_ | with_reducible refine ExtA ?_ | (with_reducible refine ExtR ?_ ?_; (first | omega | (dsimp only; omega) | (simp; done) | (simp; omega))) | (with_reducible refine ExtS ?_ ?_; (first | omega | (dsimp only; omega) | (simp; done) | (simp; omega))) | with_reducible refine Ext.tr ?_ (by with_reducible assumption)))).mono ?_); rintro e w9 ⟨rfl, ht9, hd9⟩; have Q14 := ht9.blk (BlkA (o := .cells #[.int .i64 tag, .bool true, .int .u64 (nm : Nat), .slice Af bs.length cf] 29) P14) HgB.out; have b0 := Q14.cell 0; have b1 := Q14.cell 1; have HD9 := Lib.hid hd9; have x0 : Ext wr (w6.alloc (.cells #[.int .i64 tag, .bool true, .int .u64 (nm : Nat), .slice Af bs.length cf] 29)) := (by repeat (first | with_reducible exact Below.refl _ _ | with_reducible assumption | with_reducible refine ExtD ?_ | with_reducible refine ExtDN ?_ | with_reducible refine ExtA ?_ | (with_reducible refine ExtR ?_ ?_; (first | omega | (dsimp only; omega) | (simp; done) | (simp; omega))) | (with_reducible refine ExtS ?_ ?_; (first | omega | (dsimp only; omega) | (simp; done) | (simp; omega))) | with_reducible refine Ext.tr ?_ (by with_reducible assumption))); have HT9 := Lib.hid (Turn.tr (x0.turn _) ht9); clear hd9 ht9 x0)
  | (go_at_call 32; (with_reducible refine (KInt.out _ (by repeat (first | with_reducible exact Below.refl _ _ | with_reducible assumption | with_reducible refine ExtD ?_ | with_reducible refine ExtDN ?_ | with_reducible refine ExtA ?_ | (with_reducible refine ExtR ?_ ?_; (first | omega | (dsimp only; omega) | (simp; done) | (simp; omega))) | (with_reducible refine ExtS ?_ ?_; (first | omega | (dsimp only; omega) | (simp; done) | (simp; omega))) | with_reducible refine Ext.tr ?_ (by with_reducible assumption)))).mono ?_); rintro e w9 ⟨rfl, ht9, hd9⟩; have Q14 := ht9.blk (BlkA (o := .cells #[.int .i64 tag, .bool true, .int .u64 (nm : Nat), .slice Af bs.length cf] 29) P14) HgB.out; have b0 := Q14.cell 0; have b1 := Q14.cell 1; have HD9 := Lib.hid hd9; have x0 : Ext wr (w6.alloc (.cells #[.int .i64 tag, .bool true, .int .u64 (nm : Nat), .slice Af bs.length cf] 29)) := (by repeat (first | with_reducible exact Below.refl _ _ | with_reducible assumption | with_reducible refine ExtD ?_ | with_reducible refine ExtDN ?_ | with_reducible refine ExtA ?_ | (with_reducible refine ExtR ?_ ?_; (first | omega | (dsimp only; omega) | (simp; done) | (simp; omega))) | (with_reducible refine ExtS ?_ ?_; (first | omega | (dsimp only; omega) | (simp; done) | (simp; omega))) | with_reducible refine Ext.tr ?_ (by with_reducible assumption))); have HT9 := Lib.hid (Turn.tr (x0.turn _) ht9); clear hd9 ht9 x0)
  | (go_at_call 37; (with_reducible refine (KZag.out _).mono ?_); rintro e w10 ⟨rfl, hx10⟩; have b1 := (BlkE Q14 hx10).cell 1)
  | (go_at_call 33; (with_reducible refine (KTxt.out _ (by repeat (first | with_reducible exact Below.refl _ _ | with_reducible assumption | with_reducible refine ExtD ?_ | with_reducible refine ExtDN ?_ | with_reducible refine ExtA ?_ | (with_reducible refine ExtR ?_ ?_; (first | omega | (dsimp only; omega) | (simp; done) | (simp; omega))) | (with_reducible refine ExtS ?_ ?_; (first | omega | (dsimp only; omega) | (simp; done) | (simp; omega))) | with_reducible refine Ext.tr ?_ (by with_reducible assumption)))).mono ?_); rintro e w9 ⟨rfl, ht9, hd9, hr9⟩; have Q14 := ht9.blk (BlkA (o := .cells #[] 5) (BlkA (o := .cells #[.int .i64 tag, .bool true, .int .u64 (nm : Nat), .slice Af bs.length cf] 29) P14)) HgB.out; have b1 := Q14.cell 1; have HD9 := Lib.hid hd9; have HR9 := Lib.hid hr9; have x0 : Ext wr ((w6.alloc (.cells #[.int .i64 tag, .bool true, .int .u64 (nm : Nat), .slice Af bs.length cf] 29)).alloc (.cells #[] 5)) := (by repeat (first | with_reducible exact Below.refl _ _ | with_reducible assumption | with_reducible refine ExtD ?_ | with_reducible refine ExtDN ?_ | with_reducible refine ExtA ?_ | (with_reducible refine ExtR ?_ ?_; (first | omega | (dsimp only; omega) | (simp; done) | (simp; omega))) | (with_reducible refine ExtS ?_ ?_; (first | omega | (dsimp only; omega) | (simp; done) | (simp; omega))) | with_reducible refine Ext.tr ?_ (by with_reducible assumption))); have HT9 := Lib.hid (Turn.tr (x0.turn _) ht9); clear hd9 ht9 hr9 x0)
  | (go_at_call 15; (first | (with_reducible refine (KSam.out _ _ _ _ _ HT9.out HR9.out).mono ?_) | (with_reducible refine (KSam.out _ HT9.out HR9.out).mono ?_)); rintro e w10 ⟨rfl, hx10⟩; have b1 := (BlkE Q14 hx10).cell 1))
                      have xz : Ext w9 w10 := (by repeat (first | with_reducible exact Below.refl _ _ | with_reducible assumption | with_reducible refine ExtD ?_ | with_reducible refine ExtDN ?_ | with_reducible refine ExtA ?_ | (with_reducible refine ExtR ?_ ?_; (first | omega | (dsimp only; omega) | (simp; done) | (simp; omega))) | (with_reducible refine ExtS ?_ ?_; (first | omega | (dsimp only; omega) | (simp; done) | (simp; omega))) | with_reducible refine Ext.tr ?_ (by with_reducible assumption)))
                      have T := HT9.out.tr (xz.turn [g, b])
                      have HOz := Lib.hid (HO.out.turnR HR.out T)
                      have HXz := Lib.hid (T.ext HX.out (fun r hr => by
  rcases List.mem_cons.1 hr with rfl | hr
  · exact HR.out.lo.1
  · rw [List.mem_singleton.1 hr]; exact HR.out.lo.2))
                      have HPz := Lib.hid (T.own HOp.out (fun r hr hc => HbR.out (by simp [Value.ownBlock] at hr; rw [hr]; exact hc)))
                      have Q15 : Blk w10 wr.heap.size 48 #[.int .i64 2, .int .i64 tag, .int .i64 v, .slice Bp pl.length cb] := BlkE Q14 xz
                      have HQ15 := Lib.hid Q15
                      have Hxz := Lib.hid xz
                      have HE0 : Hid ((w10.alloc (.cells #[] 29)).ownsRow w10.heap.size 29 4 (.slice (some ⟨w10.heap.size, 0, none⟩) 0 0) 0 (fsCells [])) := Lib.hid (own_new w10 _ #[] _ 0 (Nat.le_refl _) (by decide) rfl)
                      clear a0 a1 a2 T xz Q15
                      try clear b0
                      go_loopw [22, 211] (fun d22 d211 wy => LfR w10 lf tag d22 d211 wy) (fun _ d211 _ => lf.length - (intOf d211).toNat)
                      case atStart => exact ⟨0, _, 0, rfl, by omega, rfl, HE0.out, ExtA (Ext.rfl' _)⟩
                      case round =>
                        rename World => wy
                        obtain ⟨j, A9, c9, rfl, hj, rfl, ho9, hx9⟩ := hrel
                        have hOy := HOz.out.ext' hx9
                        have P16 := BlkE HQ15.out hx9
                        have p1 : wy.cell? ⟨wr.heap.size, 1, none⟩ = some (.int .i64 tag) := P16.cell 1
                        by_cases hjl : j < lf.length
                        · obtain ⟨bf, rfl, _, hcl⟩ := own_row_at hOy.1 (by omega)
                          obtain ⟨⟨⟨ut, ux, un, ub⟩, Au, cu⟩, hg⟩ : ∃ h, lf[j]? = some h := ⟨_, List.getElem?_eq_getElem hjl⟩
                          have u0 : wy.cell? ⟨bf, j * 4, none⟩ = some (.int .i64 ut) := (hcl (j * 4 + 0) _ (by rw [fsCells_at lf j 0 _ hg (by omega)]; rfl)).1
                          have u1 : wy.cell? ⟨bf, j * 4 + 1, none⟩ = some (.bool ux) := (hcl (j * 4 + 1) _ (by rw [fsCells_at lf j 1 _ hg (by omega)]; rfl)).1
                          have u2 : wy.cell? ⟨bf, j * 4 + 2, none⟩ = some (.int .u64 (un : Nat)) := (hcl (j * 4 + 2) _ (by rw [fsCells_at lf j 2 _ hg (by omega)]; rfl)).1
                          have u3 : wy.cell? ⟨bf, j * 4 + 3, none⟩ = some (.slice Au ub.length cu) := (hcl (j * 4 + 3) _ (by rw [fsCells_at lf j 3 _ hg (by omega)]; rfl)).1
                          have hsn := strike_snoc (t := tag) hg
                          have Hrf := Lib.hid fun (W : World) => rdF_new W _ ⟨ut, ux, un, ub⟩ Au cu rfl
                          have hsl := strike_len tag (lf.take j)
                          have HLj : Hid ((strike tag (lf.take j)).length ≤ 31) := Lib.hid (by rw [List.length_take] at hsl; omega)
                          have HO9 := Lib.hid ho9
                          clear hcl hg ho9 hOy hsl P16
                          by_cases htt : ut = tag
                          · have t0 : (ut != tag) = false := by simpa using htt
                            rw [if_pos htt] at hsn
                            have Hsn := Lib.hid hsn
                            clear htt hsn
                            go_wp2_with fail
                            go_quiet (fail)
                            go_wp2_with fail
                            refine And.intro ⟨j + 1, A9, c9, by go_num, by omega, by rw [Hsn.out], by rw [Hsn.out]; exact own_ext (by repeat (first | with_reducible exact Below.refl _ _ | with_reducible assumption | with_reducible refine ExtD ?_ | with_reducible refine ExtDN ?_ | with_reducible refine ExtA ?_ | (with_reducible refine ExtR ?_ ?_; (first | omega | (dsimp only; omega) | (simp; done) | (simp; omega))) | (with_reducible refine ExtS ?_ ?_; (first | omega | (dsimp only; omega) | (simp; done) | (simp; omega))) | with_reducible refine Ext.tr ?_ (by with_reducible assumption))) HO9.out, (by repeat (first | with_reducible exact Below.refl _ _ | with_reducible assumption | with_reducible refine ExtD ?_ | with_reducible refine ExtDN ?_ | with_reducible refine ExtA ?_ | (with_reducible refine ExtR ?_ ?_; (first | omega | (dsimp only; omega) | (simp; done) | (simp; omega))) | (with_reducible refine ExtS ?_ ?_; (first | omega | (dsimp only; omega) | (simp; done) | (simp; omega))) | with_reducible refine Ext.tr ?_ (by with_reducible assumption)))⟩ ?_
                            simp [intOf]; omega
                          · have t0 : (ut != tag) = true := by simpa using htt
                            rw [if_neg htt] at hsn
                            have Hsn := Lib.hid hsn
                            clear htt hsn
                            have v0 : wy.drew.cell? ⟨bf, j * 4, none⟩ = some (.int .i64 ut) := u0
                            go_wp2_with fail
                            go_quiet (fail)
                            go_wp2_with (change wpList _ _ _ (⟨some 228, _, _, _, _, _⟩ :: _) _ _; refine wpFd_append rfl (.tmp 222) (.tmp 227) rfl w10.heap.size (Nat.le_trans hx9.size (Below.size (B := wy.heap.size) (w := wy) (by repeat (first | with_reducible exact Below.refl _ _ | with_reducible assumption | with_reducible refine ExtD ?_ | with_reducible refine ExtDN ?_ | with_reducible refine ExtA ?_ | (with_reducible refine ExtR ?_ ?_; (first | omega | (dsimp only; omega) | (simp; done) | (simp; omega))) | (with_reducible refine ExtS ?_ ?_; (first | omega | (dsimp only; omega) | (simp; done) | (simp; omega))) | with_reducible refine Ext.tr ?_ (by with_reducible assumption))))) rfl (own_ext (w := wy) (by repeat (first | with_reducible exact Below.refl _ _ | with_reducible assumption | with_reducible refine ExtD ?_ | with_reducible refine ExtDN ?_ | with_reducible refine ExtA ?_ | (with_reducible refine ExtR ?_ ?_; (first | omega | (dsimp only; omega) | (simp; done) | (simp; omega))) | (with_reducible refine ExtS ?_ ?_; (first | omega | (dsimp only; omega) | (simp; done) | (simp; omega))) | with_reducible refine Ext.tr ?_ (by with_reducible assumption))) HO9.out) rfl (Hrf.out _) (by have := HLj.out; simp; omega) ?_; intro A10 n10 c10 w11 hn10 ho10 ht10 hb10; have O10 := Lib.hid ho10; clear ho10)
                            obtain rfl : n10 = (strike tag (lf.take j)).length + 1 := by rw [hn10.out]; rfl
                            refine And.intro ⟨j + 1, A10, c10, by go_num, by omega, by rw [Hsn.out, List.length_append]; rfl, by rw [Hsn.out, List.length_append]; exact O10.out, ?_⟩ ?_
                            · exact ht10.ext (hx9.tr (by repeat (first | with_reducible exact Below.refl _ _ | with_reducible assumption | with_reducible refine ExtD ?_ | with_reducible refine ExtDN ?_ | with_reducible refine ExtA ?_ | (with_reducible refine ExtR ?_ ?_; (first | omega | (dsimp only; omega) | (simp; done) | (simp; omega))) | (with_reducible refine ExtS ?_ ?_; (first | omega | (dsimp only; omega) | (simp; done) | (simp; omega))) | with_reducible refine Ext.tr ?_ (by with_reducible assumption)))) fun r hr => (HO9.out.lt r (own_blkOf hr)).1
                            · simp [intOf]; omega
                        · obtain rfl : j = lf.length := by omega
                          rw [List.take_length] at ho9 ⊢
                          have HO9 := Lib.hid ho9
                          have HOy := Lib.hid hOy
                          clear ho9 hOy P16
                          go_wp2_with fail
                          obtain ⟨D9, hD9⟩ := HD9.out
                          refine And.intro ⟨k + 1, A9, c9, strike tag lf, _, strike tag hr, D9, by go_num, by omega, rfl, rfl, HXz.out.tr hx9, ⟨own_base HO9.out (HXz.out.size), fun x hx => HOy.out.2 x (strike_mem hx)⟩, hD9.ext (Hxz.out.tr hx9), strike_both HM.out tag, strike_rise HI.out, fun f hf => ?_, Nat.le_trans (strike_len _ _) hl31, own_ext hx9 HPz.out⟩ ?_
                          · obtain ⟨x, hx, rfl⟩ := List.mem_map.1 hf
                            exact HW.out _ (List.mem_map.2 ⟨x, strike_mem hx, rfl⟩)
                          · simp [intOf]; omega
          · have t0 : (pk == 0) = false := by simp; omega
            have t1 : (pk == 1) = false := by simp; omega
            have t2 : (pk == 2) = false := by simp; omega
            have hll : hr.length = lf.length := by have := congrArg List.length HM.out; simp at this; omega
            have htags : hr.map (·.1.tag) = lf.map (·.1.tag) := by have := congrArg (List.map fun f : Fld => f.tag) HM.out; rw [List.map_map, List.map_map] at this; exact this.symm
            have KF : Hid (∀ W, Ext wr W → Calls Try.prog 36 #[.slice A8 lf.length c8, .int .i64 tag] W fun e w' => e = .returned (.tuple #[fldV (foundH lf tag), .bool (findH lf tag).isSome]) ∧ Ext W w') := Lib.hid fun W hx => rfind_any W w.heap.size A8 c8 lf tag (HO.out.ext' hx) hlf
            have KR : Hid (∀ W, Ext wr W → Calls Try.prog 34 #[.pointer (some ⟨g, 0, none⟩)] W fun e w' => ∃ A c, e = .returned (.slice A lf.length c) ∧ Ext W w' ∧ w'.ownsRow W.heap.size 3 1 (.slice A lf.length c) lf.length (ints (lf.map (·.1.tag)))) := Lib.hid fun W hx => by
              have := rest_any W w.heap.size g b hr _ D8 (HR.out.ext hx) hl31 HI.out
              unfold RestPost at this
              rw [hll, htags] at this
              exact this
            have KE : Hid (∀ W, Ext wr W → Calls Try.prog 35 #[.pointer (some ⟨g, 0, none⟩)] W fun e w' => e = .returned (.int .i64 ((if form = true then 33 else if 0 < lf.length then 20 else 0 : Nat) : Int)) ∧ Ext W w') := Lib.hid fun W hx => by
              have := rerr_any W w.heap.size g b hr _ D8 (HR.out.ext hx)
              unfold errR at this
              rw [hll] at this
              cases form
              · exact this
              · exact this
            clear hkd hll htags
            generalize foundH lf tag = fx at *
            obtain ⟨⟨tg, xt, nm, bs⟩, Af, cf⟩ := fx
            generalize (findH lf tag).isSome = okb at *
            unfold fldV fcells at KF
            dsimp only at KF
            go_wp2_with (first
              | (go_at_call 36; (with_reducible refine (KF.out _ (by repeat (first | with_reducible exact Below.refl _ _ | with_reducible assumption | with_reducible refine ExtD ?_ | with_reducible refine ExtDN ?_ | with_reducible refine ExtA ?_ | (with_reducible refine ExtR ?_ ?_; (first | omega | (dsimp only; omega) | (simp; done) | (simp; omega))) | (with_reducible refine ExtS ?_ ?_; (first | omega | (dsimp only; omega) | (simp; done) | (simp; omega))) | with_reducible refine Ext.tr ?_ (by with_reducible assumption)))).mono ?_); rintro e w6 ⟨rfl, hx6⟩; have P14 : Blk w6 wr.heap.size 48 #[.int .i64 pk, .int .i64 tag, .int .i64 v, .slice Bp pl.length cb] := BlkE (BlkN rfl) hx6; have a0 : ∀ ob, (w6.alloc ob).cell? ⟨wr.heap.size, 0, none⟩ = some (.int .i64 pk) := fun ob => (BlkA (o := ob) P14).cell 0; have X6 : Ext wr (w6.alloc (.cells #[.int .i64 tg, .bool xt, .int .u64 (nm : Nat), .slice Af bs.length cf] 29)) := (by repeat (first | with_reducible exact Below.refl _ _ | with_reducible assumption | with_reducible refine ExtD ?_ | with_reducible refine ExtDN ?_ | with_reducible refine ExtA ?_ | (with_reducible refine ExtR ?_ ?_; (first | omega | (dsimp only; omega) | (simp; done) | (simp; omega))) | (with_reducible refine ExtS ?_ ?_; (first | omega | (dsimp only; omega) | (simp; done) | (simp; omega))) | with_reducible refine Ext.tr ?_ (by with_reducible assumption))))
              | (go_at_call 34; (with_reducible refine (KR.out _ X6).mono ?_); rintro e w9 ⟨A9, c9, rfl, hx9, ho9⟩; have O9 := Lib.hid ho9; have X9 := X6.tr hx9; clear ho9))
            have hA9 : Hid (∀ r ∈ blkOf A9, wr.heap.size ≤ r) := Lib.hid fun r hr => Nat.le_trans X6.size (O9.out.lt r (own_blkOf hr)).1
            have P15 := BlkE (BlkA (o := .cells #[.int .i64 tg, .bool xt, .int .u64 (nm : Nat), .slice Af bs.length cf] 29) P14) hx9
            have hTl : (lf.map (·.1.tag)).length = lf.length := by simp
            have O9' : w9.ownsRow (w6.alloc (.cells #[.int .i64 tg, .bool xt, .int .u64 (nm : Nat), .slice Af bs.length cf] 29)).heap.size 3 1 (.slice A9 (lf.map (·.1.tag)).length c9) (lf.map (·.1.tag)).length (ints (lf.map (·.1.tag))) := by rw [hTl]; exact O9.out
            have HTl := Lib.hid hTl
            have HX9 := Lib.hid X9
            clear hTl X6 a0 P14 P15
            go_loopw [114] (fun d wy => RestR w9 (w6.alloc (.cells #[.int .i64 tg, .bool xt, .int .u64 (nm : Nat), .slice Af bs.length cf] 29)).heap.size A9 c9 (lf.map (·.1.tag)) d wy) (fun d _ => lf.length - (intOf d).toNat)
            case atStart => exact ⟨0, _, rfl, by omega, Turn.refl _ _, O9', rfl⟩
            case round =>
              rename World => wy
              obtain ⟨j, xs, rfl, hj, hty, ho, hdr⟩ := hrel
              have hXy : Ext wr wy := hty.ext HX9.out hA9.out
              rw [HTl.out] at hj ho
              by_cases hjl : j < lf.length
              · have hOy := HO.out.ext' hXy
                obtain ⟨bf, rfl, _, hcl⟩ := own_row_at hOy.1 (by omega)
                obtain ⟨⟨⟨ut, ux, un, ub⟩, Au, cu⟩, hg⟩ : ∃ h, lf[j]? = some h := ⟨_, List.getElem?_eq_getElem hjl⟩
                have u0 : wy.cell? ⟨bf, j * 4, none⟩ = some (.int .i64 ut) := (hcl (j * 4 + 0) _ (by rw [fsCells_at lf j 0 _ hg (by omega)]; rfl)).1
                obtain ⟨hx1, hx2⟩ := drop_head hdr (by rw [HTl.out]; exact hjl)
                have hxj : xs[j]? = some ut := by rw [hx1, List.getElem?_map, hg]; rfl
                obtain ⟨br, rfl, _, hcr⟩ := own_row_at ho (by omega)
                obtain ⟨r0, r1⟩ := hcr j (.int .i64 ut) (by rw [List.getElem?_map, hxj]; rfl)
                have HO' := Lib.hid (own_set1 (u := .int .i64 99) ho hjl)
                have Hx2 := Lib.hid (hx2 99)
                clear hcl hcr hg hOy ho hdr hx1 hx2 hxj hXy
                go_wp2_with fail
                go_quiet (fail)
                go_wp2_with fail
                refine And.intro ⟨j + 1, xs.set j 99, by go_num, by rw [HTl.out]; omega, hty.tr ?_, ?_, Hx2.out⟩ ?_
                · first | exact Turn.cell (by simp [blkOf]) | exact ((ExtD (Ext.rfl' wy)).turn _).tr (Turn.cell (by simp [blkOf])) | exact ((ExtDN (Ext.rfl' wy)).turn _).tr (Turn.cell (by simp [blkOf]))
                · rw [HTl.out]
                  unfold ints
                  rw [List.map_set]
                  exact HO'.out
                · simp [intOf]; omega
              · obtain rfl : j = lf.length := by omega
                have HXy := Lib.hid hXy
                clear ho hdr hty hXy
                by_cases h0 : 0 < lf.length
                all_goals cases form
                all_goals
                  have KE2 := KE.out
                  simp only [h0, if_true, if_false, Bool.false_eq_true] at KE2
                  have KE3 := Lib.hid KE2
                  clear KE2
                  go_wp2_with (go_at_call 35; (with_reducible refine (KE3.out _ HXy.out).mono ?_); rintro e w10 ⟨rfl, hx10⟩)
                  have X10 := HXy.out.tr hx10
                  refine And.intro ⟨k + 1, A8, c8, lf, _, hr, D8, by go_num, by omega, rfl, rfl, HX.out.tr X10, HO.out.ext' X10, HR.out.ext X10, HM.out, HI.out, HW.out, hl31, own_ext X10 HOp.out⟩ ?_
                  simp [intOf]; omega
        · obtain rfl : k = S.length := by omega
          have HX := Lib.hid hX
          clear hX hO hR hmm hri hfw hOp
          go_wp2_with fail
          go_ret
          exact ⟨rfl, HX.out⟩
theorem tlvReads_walk (A : Option Addr) (n c : Nat) (l : List UInt8) (A2 : Option Addr) (c2 : Nat) (scr : List HP) (w : World) (hr : Rd w A n (u8s l)) (hnc : n ≤ c) (hn : n ≤ 140737488351232) (hp : PtsRd w A2 scr) (hn2 : scr.length * 48 ≤ 140737488351232) :
    Calls Try.prog 11 #[.slice A n c, .slice A2 scr.length c2] w fun e w' => e = .returned (.bool true) ∧ Ext w w' := by
  by_cases he : (dec l).2.2 = 0
  · exact tlvReads_ok A n c l A2 c2 scr w hr hnc hn hp hn2 he
  · exact tlvReads_bad A n c l A2 c2 scr w hr hnc hn he
end Go.Proofs.Ytcekdfhbbfednaa
