/-
  The walk of SimfsOwn.
-/
import Derived.Test.YtomnllkliifeoaaSpB
import Derived.StillTailTactics
import Derived.Test.YtomnllkliifeoaaLsF
namespace Go.Proofs.Ytomnllkliifeoaa
open Go.RowKit
set_option linter.unusedVariables false
set_option linter.unusedSimpArgs false
open Go.Maps
theorem OwnI.start {W w w3 w4 w5 : World} {g b : Nat} {d : Dk} {D : DataW Value} {hs : List HF} {A3 A5 : Option Addr} {n c3 c5 M : Nat} {hv3 : List HV} {l5 : List ByteArray} (hX : FsX W w g d b D hs) (hx3 : Ext w w3) (h3 : OwnFl w3 w.heap.size A3 n c3 hv3) (hd : DisV hv3) (hx4 : Ext w3 w4) (hx5 : Ext w4 w5)
    (h5 : w5.ownsRow w4.heap.size 9 1 (.slice A5 l5.length c5) l5.length (l5.map Value.string)) (hM : ∀ h ∈ hv3, h.1.data.length ≤ M) : OwnI W g b d D hs w.heap.size w3.heap.size w4 A5 l5.length c5 A3 n c3 M w5 (hv3.map spOf) where
  hb := fun r hr => hX.lt r hr
  hW := hX.ext.size
  za := fun v hv r hr => by
    simp only [List.mem_singleton] at hv
    subst hv
    exact .inl (h3.1.lt r hr).2
  sh := Shp.of (h3.ext (hx4.tr hx5))
  di := by
    rw [List.map_map]
    unfold DisR
    rw [List.pairwise_map]
    exact hd.imp fun h r h1 h2 => h r h1 h2
  zn := fun v hv r hr => by
    obtain ⟨t, ht, rfl⟩ := List.mem_map.1 hv
    obtain ⟨x, hx, rfl⟩ := List.mem_map.1 ht
    exact .inl ((h3.2 x hx).lt r hr).2
  le := fun t ht => by
    obtain ⟨x, hx, rfl⟩ := List.mem_map.1 ht
    exact hM x hx
  rs := ⟨hX.ext_ (hx3.tr (hx4.tr hx5)), ⟨hx5.size, fun k _ h2 => hx5.block k h2⟩, l5, rfl, h5⟩
def LpA (W : World) (g b : Nat) (d : Dk) (D : DataW Value) (hs : List HF) (l0 lo : Nat) (w6 : World) (An : Option Addr) (nn cn : Nat) (A : Option Addr) (n c M : Nat) (ck : Value) (w : World) : Prop :=
  ∃ (k : Nat) (S : List Sp), ck = .int .i64 k ∧ k ≤ n ∧ OwnI W g b d D hs l0 lo w6 An nn cn A n c M w S
def LpC (W : World) (g b : Nat) (d : Dk) (D : DataW Value) (hs : List HF) (l0 lo : Nat) (w6 : World) (An : Option Addr) (nn cn : Nat) (A : Option Addr) (n c : Nat) (ck : Value) (w : World) : Prop :=
  ∃ (k : Nat) (S : List Sp), ck = .int .i64 k ∧ k ≤ n ∧ OwnI W g b d D hs l0 lo w6 An nn cn A n c (67108864 + 16 * k) w S
def LpD (W : World) (g b : Nat) (d : Dk) (D : DataW Value) (hs : List HF) (l0 lo : Nat) (w6 : World) (An : Option Addr) (nn cn : Nat) (A : Option Addr) (n c k : Nat) (cj : Value) (w : World) : Prop :=
  ∃ (j : Nat) (S : List Sp), cj = .int .i64 j ∧ j ≤ 16 ∧ OwnI W g b d D hs l0 lo w6 An nn cn A n c (67108864 + 16 * k + j) w S
def LpE (W : World) (g b : Nat) (L : List FV) (D : DataW Value) (hs : List HF) (lo : Nat) (w6 : World) (An : Option Addr) (nn cn : Nat) (ck : Value) (w : World) : Prop :=
  ∃ (k : Nat) (d : Dk), ck = .int .i64 k ∧ k ≤ nn ∧ DkInv d ∧ imgL d = L ∧ Rst W g b d D hs lo w6 An nn cn w
def LpF (W : World) (g b : Nat) (d : Dk) (D : DataW Value) (hs : List HF) (lo : Nat) (w6 : World) (An : Option Addr) (nn cn base : Nat) (A : Option Addr) (n c : Nat) (cj : Value) (w : World) : Prop :=
  ∃ (j : Nat) (xs : List Value), cj = .int .i64 j ∧ j ≤ n ∧ Rst W g b d D hs lo w6 An nn cn w ∧ w.ownsRow base 5 1 (.slice A n c) n xs ∧ U8v xs
def LpB (W : World) (g b : Nat) (d : Dk) (D : DataW Value) (hs : List HF) (l0 lo : Nat) (w6 : World) (An : Option Addr) (nn cn : Nat) (A : Option Addr) (n c M k m : Nat) (cj : Value) (w : World) : Prop :=
  ∃ (j : Nat) (S : List Sp) (s : Sp), cj = .int .i64 j ∧ j ≤ m ∧ OwnI W g b d D hs l0 lo w6 An nn cn A n c M w S ∧ S[k]? = some s ∧ s.m = m
set_option maxRecDepth 100000 in
set_option maxHeartbeats 16000000 in
theorem simfsOwn_walk (room : Int) (A : Option Addr) (c : Nat) (ops : List HO) (w : World) (hroom : IsI64 room) (hr : OpsRd w A ops) (hl : ops.length * 104 ≤ 140737488351232) :
    Calls Try.prog 9 #[.int .i64 room, .slice A ops.length c] w fun e w' => e = .returned (.bool true) ∧ Ext w w' := by
  have KH := Lib.hid head_any
  have KN := Lib.hid (newK room)
  have hal := alloc_op
  have Hr := Lib.hid hr
  clear hr
  go_enter Try.func9, Try.ntmps9
  go_wp2_with (first
    | (go_at_call 14; (with_reducible refine (KH.out _).mono ?_); rintro e w1 ⟨rfl, hx1⟩)
    | (go_at_call 15; go_loud ((with_reducible refine (KN.out w1).mono ?_); rintro e w2 ⟨g, b, rfl, hX2⟩)))
  go_loopw [28] (fun c28 wr => ScrR w g b (min (max 0 room) 67108864) c28 wr) (fun c28 _ => ops.length - (intOf c28).toNat)
  case atStart => exact ⟨0, newD room, _, [], rfl, inv_new room, by simp [newD], rfl, hX2.low hx1⟩
  case round =>
    obtain ⟨k, d, D, hs, rfl, hI, hst, hrm, hX⟩ := hrel
    have HX := Lib.hid hX
    have Hrm := Lib.hid hrm
    clear hrm hX2
    by_cases hlt : k < ops.length
    · obtain ⟨ob, oo, o, rfl, hok, hc, ho⟩ := op_at (Hr.out.ext hX.ext) hlt
      have Hc := Lib.hid hc
      have Ho := Lib.hid ho
      have HI1 := Lib.hid (inv_call hI o.1 ho.2.2.2.1)
      have hst1 := (callD_steps d o.1).2
      have Hrm1 := Lib.hid (callD_room d o.1)
      have KC := Lib.hid fun (w1 : World) (h : FsX w w1 g d b D hs) (h2 : OpOk w1 o) => call_any w w1 g b d D hs o h hI (by omega) h2
      unfold CallPost at KC
      clear hX hc hok ho
      go_wp2_with (first
        | (change wpList _ _ _ (⟨some 31, _, _, _, _, _⟩ :: _) _ _; refine wpL_load_op rfl (.tmp 30) rfl ob (oo + k * 7) rfl o Hc.out ?_)
        | (change wpList _ _ _ (⟨none, .store _ (.tmp 7) _, _, _, _, _⟩ :: _) _ _; refine wpL_store_new rfl 49 (.tmp 7) (.tmp 31) rfl wr.heap.size 49 (opcells noOp) (opcells o) rfl rfl rfl rfl (opcells_one o) 7 op_wide rfl ?_)
        | (change wpList _ _ _ (⟨some 33, _, _, _, _, _⟩ :: _) _ _; refine wpL_load_row (o := ⟨some 33, _, _, _, _, _⟩) rfl 49 (.tmp 7) rfl wr.heap.size 49 (opcells o) 7 rfl (BlkN rfl) op_wide rfl ?_)
        | (go_at_call 30; go_loud ((with_reducible refine (KC.out _ (HX.out.ext_ (by repeat (first | with_reducible exact Below.refl _ _ | with_reducible assumption | with_reducible refine ExtD ?_ | with_reducible refine ExtDN ?_ | with_reducible refine ExtA ?_ | (with_reducible refine ExtR ?_ ?_; (first | omega | (dsimp only; omega) | (simp; done) | (simp; omega))) | (with_reducible refine ExtS ?_ ?_; (first | omega | (dsimp only; omega) | (simp; done) | (simp; omega))) | with_reducible refine Ext.tr ?_ (by with_reducible assumption)))) (Ho.out.ext (by repeat (first | with_reducible exact Below.refl _ _ | with_reducible assumption | with_reducible refine ExtD ?_ | with_reducible refine ExtDN ?_ | with_reducible refine ExtA ?_ | (with_reducible refine ExtR ?_ ?_; (first | omega | (dsimp only; omega) | (simp; done) | (simp; omega))) | (with_reducible refine ExtS ?_ ?_; (first | omega | (dsimp only; omega) | (simp; done) | (simp; omega))) | with_reducible refine Ext.tr ?_ (by with_reducible assumption))))).mono ?_); rintro e w5 ⟨A5, c5, rfl, ⟨D5, hs5, hX5, ht5, hf5⟩, hown5⟩)))
      go_roundw
      case rel => exact ⟨k + 1, _, D5, hs5, by go_num, HI1.out, by omega, Hrm1.out.trans Hrm.out, hX5⟩
      case measure => simp [intOf]; omega
    · have d3 : decide (k < ops.length) = false := by simpa using hlt
      have KA := Lib.hid fun (w1 : World) (h : FsX w w1 g d b D hs) => image_dis w w1 g b d D hs h hI.ok
      have KB := Lib.hid fun (w1 : World) (h : FsX w w1 g d b D hs) => imageK h hI
      have KL := Lib.hid fun (w1 : World) (h : FsX w w1 g d b D hs) => list_own h
      have hsm := img_small' hI
      have hcn : (imgL d).length ≤ 700 := by rw [imgL_len]; exact hI.cnt
      unfold ptrV at KA
      unfold GaveD at KA
      unfold GaveF at KB
      rw [← imgL_len] at KL
      obtain ⟨nI, hnI⟩ : ∃ nI, nI = (imgL d).length := ⟨_, rfl⟩
      rw [← hnI] at KA KB KL hcn
      have HnI := Lib.hid hnI
      have Hsm := Lib.hid hsm
      have HI := Lib.hid hI
      clear hX hnI hsm hI hlt hst hal
      go_wp2_with (first
        | (go_at_call 29; (with_reducible refine (KB.out _ hX3).mono ?_); rintro e w4 ⟨A4, c4, hv4, rfl, hm4, hx4, hown4⟩; have hX4 := hX3.ext_ hx4)
        | (go_at_call 29; (with_reducible refine (KA.out _ HX.out).mono ?_); rintro e w3 ⟨A3, c3, hv3, rfl, hm3, hx3, hown3, hdis3⟩; have hX3 := HX.out.ext_ hx3)
        | (go_at_call 25; go_loud ((with_reducible refine (KL.out _ hX4).mono ?_); rintro e w5 ⟨A5, c5, l5, rfl, hx5, hown5, hl5⟩)))
      have hM3 : ∀ h ∈ hv3, h.1.data.length ≤ 67108864 := fun h hh => Hsm.out _ (by rw [← hm3]; exact List.mem_map.2 ⟨h, hh, rfl⟩)
      have HO := Lib.hid (OwnI.start HX.out hx3 hown3 hdis3 hx4 hx5 hown5 hM3)
      have R4 := Lib.hid hown4
      have Hm4 := Lib.hid hm4
      have Hlo := Lib.hid (Nat.le_refl w3.heap.size)
      obtain ⟨nn, hnn⟩ : ∃ nn, nn = l5.length := ⟨_, rfl⟩
      rw [← hnn] at HO hl5 ⊢
      have HW5 := Lib.hid ((HX.out.ext.tr hx3).tr (hx4.tr hx5))
      have HW3 := Lib.hid hx3.size
      obtain ⟨l0, hl0⟩ : ∃ l0, l0 = wr.heap.size := ⟨_, rfl⟩
      have HW4 := Lib.hid (Nat.le_trans hx3.size hx4.size)
      rw [← hl0] at HO HW3 HW4
      have Hl0 := Lib.hid hl0
      clear hl0 hown3 hdis3 hown5 hm3 hM3 hX3 hX4 hown4 hm4 hnn hx3 hx4 hx5
      go_loopw [44] (fun c44 wr2 => LpA w g b d D hs l0 w3.heap.size w4 A5 nn c5 A3 nI c3 67108864 c44 wr2) (fun c44 _ => nI - (intOf c44).toNat)
      case atStart => exact ⟨0, _, rfl, by omega, HO.out⟩
      case round =>
        obtain ⟨k, S, rfl, hk, hO⟩ := hrel
        have HO1 := Lib.hid hO
        clear hO
        by_cases hlk : k < nI
        · obtain ⟨ba, s, rfl, hSk, e0, e1, hf, hba⟩ := HO1.out.sh.at_ hlk
          have hm := HO1.out.le s (List.mem_of_getElem? hSk)
          have Hs := Lib.hid hSk
          clear hSk e0
          obtain ⟨nm, m, B, cc, sf⟩ := s
          dsimp only at hm e1
          go_wp2_with fail
          go_loopw [53] (fun c53 wr3 => LpB w g b d D hs l0 w3.heap.size w4 A5 nn c5 (some ⟨ba, 0, none⟩) nI c3 67108864 k m c53 wr3) (fun c53 _ => m - (intOf c53).toNat)
          case atStart => exact ⟨0, S, _, rfl, by omega, HO1.out, Hs.out, rfl⟩
          case round =>
            obtain ⟨j, S2, s2, rfl, hj, hO2, hS2, hm2⟩ := hrel
            have HO2 := Lib.hid hO2
            have HS2 := Lib.hid hS2
            clear hO2 e1 hf
            obtain ⟨ba2, s3, hba2, hS3, e0, e1, hf2, -⟩ := HO2.out.sh.at_ hlk
            obtain rfl : s3 = s2 := by rw [hS2] at hS3; injection hS3 with h; exact h.symm
            obtain rfl : ba = ba2 := by injection hba2 with h; injection h with h
            clear hba2 hS3
            by_cases hlj : j < m
            · obtain ⟨q, x, hB, hc, hfq, hbq⟩ := HO2.out.sh.byte hS2 (by omega : j < s3.m)
              obtain ⟨nm2, m2, B2, cc2, sf2⟩ := s3
              dsimp only at e0 e1 hm2 hB
              subst hm2 hB
              clear e0 hS2
              go_wp2_with fail
              go_roundw
              case rel => exact ⟨j + 1, S2, _, by go_num, by omega, HO2.out.byte HS2.out rfl j _, HS2.out, rfl⟩
              case measure => simp [intOf]; omega
            · obtain ⟨nm2, m2, B2, cc2, sf2⟩ := s3
              dsimp only at e0 e1 hm2
              obtain rfl : j = m := by omega
              have hfk := hf2 (k * 3)
              clear hS2 hm2
              go_wp2_with fail
              go_roundw
              case rel => exact ⟨k + 1, _, by go_num, by omega, HO2.out.name HS2.out _⟩
              case measure => simp [intOf]; omega
        · obtain rfl : k = nI := by omega
          go_wp2_with fail
          go_loopw [74] (fun c74 wr2 => LpC w g b d D hs l0 w3.heap.size w4 A5 nn c5 A3 k c3 c74 wr2) (fun c74 _ => k - (intOf c74).toNat)
          case atStart => exact ⟨0, S, rfl, by omega, HO1.out⟩
          case round =>
            clear S HO1 hk hlk
            obtain ⟨i, S, rfl, hi, hO⟩ := hrel
            have HO1 := Lib.hid hO
            clear hO
            by_cases hli : i < k
            · go_wp2_with fail
              go_loopw [14] (fun c14 wr3 => LpD w g b d D hs l0 w3.heap.size w4 A5 nn c5 A3 k c3 i c14 wr3) (fun c14 _ => 16 - (intOf c14).toNat)
              case atStart => exact ⟨0, S, rfl, by omega, HO1.out⟩
              case round =>
                clear S HO1
                obtain ⟨j, S, rfl, hj, hO⟩ := hrel
                have HO2 := Lib.hid hO
                clear hO
                by_cases hlj : j < 16
                · obtain ⟨ba, s, rfl, hSk, e0, e1, hf, hba⟩ := HO2.out.sh.at_ hli
                  have hm := HO2.out.le s (List.mem_of_getElem? hSk)
                  obtain ⟨xs, ho, hu⟩ := HO2.out.sh.el s (List.mem_of_getElem? hSk)
                  have Hs := Lib.hid hSk
                  have Ho := Lib.hid ho
                  have Hu := Lib.hid hu
                  have Hsz := Lib.hid (Nat.le_trans HW4.out HO2.out.rs.kp.1)
                  clear hSk e0 ho hu
                  obtain ⟨nm, m, B, cc, sf⟩ := s
                  dsimp only at hm e1
                  go_wp2_with (change wpList _ _ _ (⟨some 89, _, _, _, _, _⟩ :: _) _ _; refine wpL_append rfl (.tmp 87) (.tmp 88) 28 rfl l0 5 _ 1 1 Try.underlying28 el_u8 _ m xs rfl (own_ext (ExtA (Ext.rfl' wr)) Ho.out) _ 1 _ [.int .u8 204] rfl (rd_new wr #[.int .u8 204] 5).toN (fun u hu => by simp only [List.mem_singleton] at hu; subst hu; rfl) (m + 1) _ rfl rfl (by simp only [maxLen]; omega) (by omega) (by have := Hsz.out; simp; omega) ?_; intro v1 w1 hown1 hg1 hb1; obtain ⟨B1, c1, rfl⟩ := own_slice hown1; have hcl := (HO2.out.ext (ExtA (Ext.rfl' wr))).cells Hs.out (own_ext (ExtA (Ext.rfl' wr)) Ho.out) hg1; dsimp only at hcl; obtain ⟨hcl1, hcl2⟩ := hcl)
                  go_roundw
                  case rel => exact ⟨j + 1, _, by go_num, by omega, (HO2.out.ext (ExtA (Ext.rfl' wr))).app Hs.out Hu.out 204 (own_ext (ExtA (Ext.rfl' wr)) Ho.out) hown1 hg1 hb1⟩
                  case measure => simp [intOf]; omega
                · obtain rfl : j = 16 := by omega
                  go_wp2_with fail
                  go_roundw
                  case rel => exact ⟨i + 1, S, by go_num, by omega, HO2.out.more (by omega)⟩
                  case measure => simp [intOf]; omega
            · obtain rfl : i = k := by omega
              have hnl : decide (i < nn) = false := by simpa using hl5
              go_wp2_with fail
              have HR := Lib.hid HO1.out.rs
              have Hb := Lib.hid HO1.out.hb
              have HWl := Lib.hid HO1.out.hW
              clear HO1 hnl
              go_loopw [100] (fun c100 wr2 => LpE w g b (imgL d) D hs w3.heap.size w4 A5 nn c5 c100 wr2) (fun c100 _ => nn - (intOf c100).toNat)
              case atStart => exact ⟨0, d, rfl, by omega, HI.out, rfl, HR.out⟩
              case round =>
                clear HR
                obtain ⟨k2, d2, rfl, hk2, hI2, him2, hR⟩ := hrel
                have HR := Lib.hid hR
                have HI2 := Lib.hid hI2
                have Him := Lib.hid him2
                have R4' := Lib.hid (show FlRd wr A4 i (imgL d) from by have := (hR.kp.fl R4.out (Nat.le_refl _)).rd; rw [Hm4.out] at this; exact this)
                clear hR him2 hI2
                by_cases hlk : k2 < nn
                · obtain ⟨q, nm, rfl, en, hfn, hlq⟩ := HR.out.nsat hlk
                  obtain ⟨bb, ob, f, Af, cf, hfk, rfl, hcf, -⟩ := fl_at R4'.out (by omega : k2 < i)
                  have hki : k2 < i := by omega
                  have e1 := hcf 1 _ rfl
                  have hfl := Hsm.out f (List.mem_of_getElem? hfk)
                  obtain ⟨fl, hfl2⟩ : ∃ fl, fl = f.data.length := ⟨_, rfl⟩
                  rw [← hfl2] at e1 hfl
                  have KRd := Lib.hid fun (w1 : World) (h : FsX w w1 g d2 b D hs) => readX_any w w1 g b d2 D hs nm 0 (fl : Nat) h HI2.out.ok (by unfold IsI64; omega) (by unfold IsI64; omega)
                  have hI6 := inv_read HI2.out nm 0 (fl : Nat)
                  have hi6 := readD_img d2 nm 0 (fl : Nat)
                  obtain ⟨d6, l6, E6, hrd⟩ : ∃ d6 l6 E6, readD d2 nm 0 (fl : Nat) = (d6, l6, E6) := ⟨_, _, _, rfl⟩
                  rw [hrd] at KRd hI6 hi6
                  unfold ptrV GaveR at KRd
                  dsimp only at KRd hI6 hi6
                  have HI6 := Lib.hid hI6
                  have Hi6 := Lib.hid (hi6.trans Him.out)
                  obtain ⟨ln, hln⟩ : ∃ ln, ln = l6.length := ⟨_, rfl⟩
                  rw [← hln] at KRd
                  have hnf : ∀ r, l0 ≤ r → r ∉ foot g b hs := fun r hr hc => by have := Hb.out r hc; omega
                  have hbb : w3.heap.size ≤ bb := (R4.out.1.lt bb rfl).1
                  have HS := Lib.hid fun (w' : World) (hx' : Ext wr w') => (show w'.cell? ⟨q, k2, none⟩ = some (.string nm) ∧ w'.cell? ⟨bb, ob + k2 * 3 + 1, none⟩ = some (.slice Af fl cf) from ⟨hx'.cell en, hx'.cell e1⟩)
                  have HS2 := Lib.hid fun (w' : World) (ht : Turn (foot g b hs) wr w') => (show w'.cell? ⟨q, k2, none⟩ = some (.string nm) ∧ w'.cell? ⟨bb, ob + k2 * 3 + 1, none⟩ = some (.slice Af fl cf) from ⟨ht.at_ en (hnf q (Nat.le_trans HW4.out hlq)), ht.at_ e1 (hnf bb (Nat.le_trans HW3.out hbb))⟩)
                  have HW34 := Lib.hid HW3.out
                  clear hfk hcf hfl2 hrd hI6 hi6 hln
                  go_wp2_with fail
                  go_region_held3 (fun w' => w'.cell? ⟨q, k2, none⟩ = some (.string nm) ∧ w'.cell? ⟨bb, ob + k2 * 3 + 1, none⟩ = some (.slice Af fl cf)) (first | exact hS6 | exact HS.out _ (by repeat (first | with_reducible exact Below.refl _ _ | with_reducible assumption | with_reducible refine ExtD ?_ | with_reducible refine ExtDN ?_ | with_reducible refine ExtA ?_ | (with_reducible refine ExtR ?_ ?_; (first | omega | (dsimp only; omega) | (simp; done) | (simp; omega))) | (with_reducible refine ExtS ?_ ?_; (first | omega | (dsimp only; omega) | (simp; done) | (simp; omega))) | with_reducible refine Ext.tr ?_ (by with_reducible assumption))))
                    ((go_at_call 23; go_loud ((with_reducible refine (KRd.out _ (HR.out.fs.ext_ (by repeat (first | with_reducible exact Below.refl _ _ | with_reducible assumption | with_reducible refine ExtD ?_ | with_reducible refine ExtDN ?_ | with_reducible refine ExtA ?_ | (with_reducible refine ExtR ?_ ?_; (first | omega | (dsimp only; omega) | (simp; done) | (simp; omega))) | (with_reducible refine ExtS ?_ ?_; (first | omega | (dsimp only; omega) | (simp; done) | (simp; omega))) | with_reducible refine Ext.tr ?_ (by with_reducible assumption))))).mono ?_); rintro e w6 ⟨A6, c6, rfl, hX6, ht6, hown6⟩; have ht7 : Turn (foot g b hs) wr w6 := Turn.tr (Ext.turn (by repeat (first | with_reducible exact Below.refl _ _ | with_reducible assumption | with_reducible refine ExtD ?_ | with_reducible refine ExtDN ?_ | with_reducible refine ExtA ?_ | (with_reducible refine ExtR ?_ ?_; (first | omega | (dsimp only; omega) | (simp; done) | (simp; omega))) | (with_reducible refine ExtS ?_ ?_; (first | omega | (dsimp only; omega) | (simp; done) | (simp; omega))) | with_reducible refine Ext.tr ?_ (by with_reducible assumption))) _) ht6; have hS6 := HS2.out w6 ht7; have hown7 : w6.ownsRow w4.heap.size 5 1 (.slice A6 ln c6) ln (u8s l6) := own_base hown6 (by have := HR.out.kp.1; simp; omega))))
                  go_wp2_with fail
                  have HR6 := Lib.hid (HR.out.read Hb.out HW3.out HW4.out hX6 ht7)
                  have Ho6 := Lib.hid hown7
                  have hmx := own_max hown7
                  simp only [maxLen] at hmx
                  have e2' : (u8s l6).length = ln := by have := hown7.1; omega
                  clear hX6 ht6 hown6 hown7 ht7 hS6 en hfn e1 HR
                  go_loopw [120] (fun c120 wr3 => LpF w g b d6 D hs w3.heap.size w4 (some ⟨q, 0, none⟩) nn c5 w4.heap.size A6 ln c6 c120 wr3) (fun c120 _ => ln - (intOf c120).toNat)
                  case atStart => exact ⟨0, u8s l6, rfl, by omega, HR6.out, Ho6.out, u8v_u8s _⟩
                  case round =>
                    clear HR6 Ho6
                    obtain ⟨j, xs, rfl, hj, hR, ho, hu⟩ := hrel
                    have HR := Lib.hid hR
                    have Ho := Lib.hid ho
                    have Hu := Lib.hid hu
                    by_cases hlj : j < ln
                    · obtain ⟨q2, x, rfl, ex, fx⟩ := u8_at ho hu hlj
                      clear hR ho hu
                      go_wp2_with fail
                      go_roundw
                      case rel => exact ⟨j + 1, _, by go_num, by omega, HR.out.byte Hb.out HWl.out HW4.out Ho.out (Nat.le_refl _) j _, own_setN Ho.out j, Hu.out.set j _⟩
                      case measure => simp [intOf]; omega
                    · obtain rfl : j = ln := by omega
                      obtain ⟨q3, nm3, hq3, en, hfn, -⟩ := HR.out.nsat hlk
                      obtain rfl : q = q3 := by injection hq3 with h; injection h with h
                      clear hR ho hu hq3
                      go_wp2_with fail
                      go_roundw
                      case rel => exact ⟨k2 + 1, d6, by go_num, by omega, HI6.out, Hi6.out, HR.out.nsset Hb.out HWl.out HW4.out k2 _⟩
                      case measure => simp [intOf]; omega
                · obtain rfl : k2 = nn := by omega
                  have KI := Lib.hid (imageK HR.out.fs HI2.out)
                  unfold GaveF at KI
                  rw [Him.out, ← HnI.out] at KI
                  go_wp2_with (first
                | (go_at_call 29; (with_reducible refine (KI.out).mono ?_); rintro e w7 ⟨A7, c7, hv7, rfl, hm7, hx7, hown7⟩; have R7 : FlRd w7 A7 i (imgL d) := (by have h2 := hown7.rd; rw [hm7] at h2; exact h2))
                | (go_at_call 32; go_loud ((with_reducible refine (fsame_yes A7 A4 i c7 c4 (imgL d) w7 R7 (R4'.out.ext hx7) (by simp only [maxLen]; omega) (fun f hf => by have := Hsm.out f hf; simp only [maxLen]; omega)).mono ?_); rintro e w8 ⟨rfl, hx8⟩))
                | (go_at_call 23; (with_reducible refine (nilRead _ _ _ _).mono ?_); rintro e wNRead ⟨rfl, hxNRead⟩)
                | (go_at_call 22; (with_reducible refine (nilRestart _ _ _ _).mono ?_); rintro e wNRestart ⟨rfl, hxNRestart⟩)
                | (go_at_call 26; (with_reducible refine (nilFuse _ _).mono ?_); rintro e wNFuse ⟨rfl, hxNFuse⟩)
                | (go_at_call 33; (with_reducible refine (nilDown _).mono ?_); rintro e wNDown ⟨rfl, hxNDown⟩)
                | (go_at_call 34; (with_reducible refine (nilSteps _).mono ?_); rintro e wNSteps ⟨rfl, hxNSteps⟩)
                | (go_at_call 38; (with_reducible refine (nilReadBytes _).mono ?_); rintro e wNReadBytes ⟨rfl, hxNReadBytes⟩)
                | (go_at_call 20; (with_reducible refine (nilSync _ _).mono ?_); rintro e wNSync ⟨rfl, hxNSync⟩)
                | (go_at_call 27; (with_reducible refine (nilRename _ _ _).mono ?_); rintro e wNRename ⟨rfl, hxNRename⟩)
                | (go_at_call 39; (with_reducible refine (nilRemove _ _).mono ?_); rintro e wNRemove ⟨rfl, hxNRemove⟩)
                | (go_at_call 40; (with_reducible refine (nilCut _ _ _).mono ?_); rintro e wNCut ⟨rfl, hxNCut⟩)
                | (go_at_call 16; (with_reducible refine (nilCreate _ _).mono ?_); rintro e wNCreate ⟨rfl, hxNCreate⟩)
                | (go_at_call 18; (with_reducible refine (nilAppend _ _ _ _ _).mono ?_); rintro e wNAppend ⟨rfl, hxNAppend⟩)
                | (go_at_call 31; (with_reducible refine (nilUsed _).mono ?_); rintro e wNUsed ⟨rfl, hxNUsed⟩)
                | (go_at_call 21; (with_reducible refine (nilFree _).mono ?_); rintro e wNFree ⟨rfl, hxNFree⟩)
                | (go_at_call 25; (with_reducible refine (nilList _).mono ?_); rintro e wNList ⟨rfl, hxNList⟩)
                | (go_at_call 29; (with_reducible refine (nilImage _).mono ?_); rintro e wNImage ⟨rfl, hxNImage⟩))
                  go_ret
                  exact ⟨rfl, HR.out.fs.ext.tr (by repeat (first | with_reducible exact Below.refl _ _ | with_reducible assumption | with_reducible refine ExtD ?_ | with_reducible refine ExtDN ?_ | with_reducible refine ExtA ?_ | (with_reducible refine ExtR ?_ ?_; (first | omega | (dsimp only; omega) | (simp; done) | (simp; omega))) | (with_reducible refine ExtS ?_ ?_; (first | omega | (dsimp only; omega) | (simp; done) | (simp; omega))) | with_reducible refine Ext.tr ?_ (by with_reducible assumption)))⟩
end Go.Proofs.Ytomnllkliifeoaa
