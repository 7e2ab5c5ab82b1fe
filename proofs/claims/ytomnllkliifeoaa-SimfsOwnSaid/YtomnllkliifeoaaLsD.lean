/-
  The walk of SimfsRoom.
-/
import Derived.Test.YtomnllkliifeoaaLsC
import Derived.Test.YtomnllkliifeoaaFvB
namespace Go.Proofs.Ytomnllkliifeoaa
open Go.RowKit
set_option linter.unusedVariables false
set_option linter.unusedSimpArgs false
open Go.Maps
def sumV (l : List FV) : Nat := (l.map (·.data.length)).sum
theorem sumV_img (d : Dk) : sumV (imgL d) = sumF d.files := by
  rw [← sumF_perm (sortF_perm d.files)]
  unfold sumV imgL sumF
  rw [List.map_map]
  rfl
theorem sumV_snoc (l : List FV) (f : FV) : sumV (l ++ [f]) = sumV l + f.data.length := by simp [sumV]
theorem sumV_take_le (l : List FV) (k : Nat) : sumV (l.take k) ≤ sumV l := by
  unfold sumV
  conv => rhs; rw [← List.take_append_drop k l, List.map_append, List.sum_append]
  omega
theorem createD_room (d : Dk) (nm : ByteArray) : (createD d nm).1.room = d.room := by unfold createD; repeat (first | rfl | exact stepD_room d | split)
theorem appendD_room (d : Dk) (nm : ByteArray) (l : List UInt8) : (appendD d nm l).1.room = d.room := by unfold appendD; repeat (first | rfl | exact stepD_room d | split)
theorem syncD_room (d : Dk) (nm : ByteArray) : (syncD d nm).1.room = d.room := by unfold syncD; repeat (first | rfl | exact stepD_room d | split)
theorem renameD_room (d : Dk) (nm tn : ByteArray) : (renameD d nm tn).1.room = d.room := by unfold renameD; repeat (first | rfl | exact stepD_room d | split)
theorem removeD_room (d : Dk) (nm : ByteArray) : (removeD d nm).1.room = d.room := by unfold removeD; repeat (first | rfl | exact stepD_room d | split)
theorem cutD_room (d : Dk) (nm : ByteArray) (n : Int) : (cutD d nm n).1.room = d.room := by unfold cutD; repeat (first | rfl | exact stepD_room d | split)
theorem readD_room (d : Dk) (nm : ByteArray) (i n : Int) : (readD d nm i n).1.room = d.room := by unfold readD; dsimp only; repeat (first | rfl | split)
theorem callD_room (d : Dk) (o : Op10) : (callD d o).1.room = d.room := by
  unfold callD
  split; exact createD_room _ _
  split; exact appendD_room _ _ _
  split; exact syncD_room _ _
  split; exact renameD_room _ _ _
  split; exact removeD_room _ _
  split; exact cutD_room _ _ _
  split; exact readD_room _ _ _ _
  split; rfl
  split; rfl
  split; rfl
  rfl
theorem callD_bad (d : Dk) (o : Op10) (h0 : (callD d o).2.2.2 ≠ 0) (h3 : (callD d o).2.2.2 ≠ 3) : (callD d o).1.files = d.files := by
  have hs := stepD_files d
  revert h0 h3
  unfold callD
  split
  · unfold createD; repeat (first | (intros; rfl) | (intro a b; exact absurd rfl a) | (intro a b; exact absurd rfl b) | split)
  split
  · unfold appendD; dsimp only; repeat (first | (intros; rfl) | (intro a b; exact absurd rfl a) | (intro a b; exact absurd rfl b) | split)
  split
  · unfold syncD; repeat (first | (intros; rfl) | (intro a b; exact absurd rfl a) | (intro a b; exact absurd rfl b) | split)
  split
  · unfold renameD; repeat (first | (intros; rfl) | (intro a b; exact absurd rfl a) | (intro a b; exact absurd rfl b) | split)
  split
  · unfold removeD; repeat (first | (intros; rfl) | (intro a b; exact absurd rfl a) | (intro a b; exact absurd rfl b) | split)
  split
  · unfold cutD; repeat (first | (intros; rfl) | (intro a b; exact absurd rfl a) | (intro a b; exact absurd rfl b) | split)
  split
  · unfold readD; dsimp only; repeat (first | (intros; rfl) | (intro a b; exact absurd rfl a) | split)
  split
  · intros; rfl
  split
  · intro a b; exact absurd rfl a
  split
  · intro a b; exact absurd rfl a
  intro a b; exact absurd rfl a
theorem OwnFl.turn {F : List Nat} {w w' : World} {base : Nat} {A : Option Addr} {n c : Nat} {hs : List HV} (h : OwnFl w base A n c hs) (ht : Turn F w w') (hF : ∀ r ∈ F, r < base) : OwnFl w' base A n c hs :=
  ⟨ht.own h.1 fun r hr hc => by have := (h.1.lt r hr).1; have := hF r hc; omega, fun g hg => ht.own (h.2 g hg) fun r hr hc => by have := ((h.2 g hg).lt r hr).1; have := hF r hc; omega⟩
def RoomR (W : World) (g b : Nat) (room : Int) (c21 : Value) (wr : World) : Prop :=
  ∃ (k : Nat) (d : Dk) (D : DataW Value) (hs : List HF), c21 = .int .i64 k ∧ DkInv d ∧ d.steps ≤ (k : Nat) ∧ d.room = min (max 0 room) 67108864 ∧ FsX W wr g d b D hs
def SumR10 (l : List FV) (w0 : World) (c13 c38 : Value) (wr : World) : Prop := ∃ j : Nat, c38 = .int .i64 j ∧ j ≤ l.length ∧ c13 = .int .i64 (sumV (l.take j) : Nat) ∧ w0 = wr
set_option maxRecDepth 100000 in
set_option maxHeartbeats 8000000 in
theorem simfsRoom_walk (room : Int) (A : Option Addr) (c : Nat) (ops : List HO) (w : World) (hroom : IsI64 room) (hr : OpsRd w A ops) (hl : ops.length * 104 ≤ 140737488351232) :
    Calls Try.prog 6 #[.int .i64 room, .slice A ops.length c] w fun e w' => e = .returned (.bool true) ∧ Ext w w' := by
  have KH := Lib.hid head_any
  have KN := Lib.hid (newK room)
  have hal := alloc_op
  have Hr := Lib.hid hr
  clear hr
  go_enter Try.func6, Try.ntmps6
  go_wp2_with (first
    | (go_at_call 14; (with_reducible refine (KH.out _).mono ?_); rintro e w1 ⟨rfl, hx1⟩)
    | (go_at_call 15; (with_reducible refine (KN.out _).mono ?_); rintro e w2 ⟨g, b, rfl, hX2⟩))
  go_loopw [21] (fun c21 wr => RoomR w g b room c21 wr) (fun c21 _ => ops.length - (intOf c21).toNat)
  case atStart => exact ⟨0, newD room, _, _, rfl, inv_new room, by simp [newD], rfl, { hX2 with ext := hx1.tr hX2.ext, fil := fun f hf => (by cases hf), base := fun r hr => Nat.le_trans hx1.size (hX2.base r hr) }⟩
  case round =>
    obtain ⟨k, d, D, hs, rfl, hI, hst, hrm, hX⟩ := hrel
    have HX := Lib.hid hX
    by_cases hlt : k < ops.length
    · obtain ⟨ob, oo, o, rfl, hok, hc, ho⟩ := op_at (Hr.out.ext hX.ext) hlt
      have Hc := Lib.hid hc
      have Ho := Lib.hid ho
      have hI1 := inv_call hI o.1 ho.2.2.2.1
      have hst1 := (callD_steps d o.1).2
      have hrm1 := callD_room d o.1
      have hbad := callD_bad d o.1
      have KC := Lib.hid fun (w1 : World) (h : FsX w w1 g d b D hs) (h2 : OpOk w1 o) => call_any w w1 g b d D hs o h hI (by omega) h2
      obtain ⟨d1, l1, n1, E1, hcall⟩ : ∃ d1 l1 n1 E1, callD d o.1 = (d1, l1, n1, E1) := ⟨_, _, _, _, rfl⟩
      rw [hcall] at hI1 hst1 hrm1 hbad KC
      unfold CallPost at KC
      dsimp only at hI1 hst1 hrm1 hbad KC
      obtain ⟨ln1, hln1⟩ : ∃ ln1, ln1 = l1.length := ⟨_, rfl⟩
      rw [← hln1] at KC
      have KI := Lib.hid fun (w1 : World) (h : FsX w w1 g d b D hs) => imageK h hI
      have KJ := Lib.hid fun (w1 : World) (D1 : DataW Value) (hs1 : List HF) (h : FsX w w1 g d1 b D1 hs1) => imageK h hI1
      have KU := Lib.hid fun (w1 : World) (D1 : DataW Value) (hs1 : List HF) (h : FsX w w1 g d1 b D1 hs1) => usedK h
      have KF := Lib.hid fun (w1 : World) (D1 : DataW Value) (hs1 : List HF) (h : FsX w w1 g d1 b D1 hs1) => freeK h hI1
      unfold GaveF at KI KJ
      have hus : d1.used = (sumV (imgL d1) : Nat) := by rw [sumV_img]; exact hI1.ok.1
      have hfr : 0 ≤ d1.room - d1.used := by have := hI1.ok.2.1; omega
      have hmx : d1.used ≤ max 0 room := by have := hI1.ok.2.1; omega
      have hcap : d1.used ≤ 67108864 := by have := hI1.ok.2.1; have := hI1.ok.2.2; omega
      have hfl : ∀ f ∈ imgL d1, f.data.length ≤ 140737488351232 := fun f hf => by
        have h1 : f.data.length ≤ sumV (imgL d1) := le_sum_mem (List.mem_map.2 ⟨f, hf, rfl⟩)
        omega
      have hil : (imgL d1).length ≤ 700 := by rw [imgL_len]; exact hI1.cnt
      have HI1 := Lib.hid hI1
      have Hfl := Lib.hid hfl
      have Hbad := Lib.hid hbad
      clear hX hc hok hcall hln1 ho hI1 hfl hbad
      obtain ⟨iL, hiL⟩ : ∃ iL, iL = (imgL d).length := ⟨_, rfl⟩
      obtain ⟨jL, hjL⟩ : ∃ jL, jL = (imgL d1).length := ⟨_, rfl⟩
      rw [← hiL] at KI
      rw [← hjL] at KJ hil
      have HiL := Lib.hid hiL
      have HjL := Lib.hid hjL
      clear hiL hjL
      go_wp2_with (first
        | refine wpL_load_op rfl (.tmp 23) rfl ob (oo + k * 7) rfl o Hc.out ?_
        | refine wpL_store_new rfl 49 (.tmp 7) (.tmp 24) rfl wr.heap.size 49 (opcells noOp) (opcells o) rfl rfl rfl rfl (opcells_one o) 7 op_wide rfl ?_
        | (go_at_call 29; (with_reducible refine (KJ.out _ _ _ hX5).mono ?_); rintro e w6 ⟨A6, c6, hv6, rfl, hm6, hx6, hown6⟩; have hX6 := hX5.ext_ hx6)
        | (go_at_call 29; go_loud ((with_reducible refine (KI.out _ (HX.out.ext_ (by repeat (first | with_reducible exact Below.refl _ _ | with_reducible assumption | with_reducible refine ExtD ?_ | with_reducible refine ExtDN ?_ | with_reducible refine ExtA ?_ | (with_reducible refine ExtR ?_ ?_; (first | omega | (dsimp only; omega) | (simp; done) | (simp; omega))) | (with_reducible refine ExtS ?_ ?_; (first | omega | (dsimp only; omega) | (simp; done) | (simp; omega))) | with_reducible refine Ext.tr ?_ (by with_reducible assumption))))).mono ?_); rintro e w3 ⟨A3, c3, hv3, rfl, hm3, hx3, hown3⟩; have hX3 := HX.out.ext_ (show Ext wr w3 from (ExtA (Ext.rfl' wr)).tr hx3); have hb3 : Blk w3 wr.heap.size 49 (opcells o) := hx3.blk (BlkN rfl); have ho3 := Ho.out.ext (show Ext wr w3 from (ExtA (Ext.rfl' wr)).tr hx3)))
        | refine wpL_load_row (o := ⟨some 29, _, _, _, _, _⟩) rfl 49 (.tmp 7) rfl wr.heap.size 49 (opcells o) 7 rfl hb3 op_wide rfl ?_
        | (go_at_call 30; go_loud ((with_reducible refine (KC.out _ hX3 ho3).mono ?_); rintro e w5 ⟨A5, c5, rfl, ⟨D5, hs5, hX5, ht5, hf5⟩, hown5⟩)))
      have hb4 : OwnFl w6 (wr.alloc (.cells (opcells o) 49)).heap.size A3 iL c3 hv3 := (hown3.turn ht5 (fun r hr => by have := HX.out.lt r hr; simp; omega)).ext hx6
      have R3 := Lib.hid (show FlRd w6 A3 iL (imgL d) from by have := hb4.rd; rw [hm3] at this; exact this)
      have R6 := Lib.hid (show FlRd w6 A6 jL (imgL d1) from by have := hown6.rd; rw [hm6] at this; exact this)
      have HX6 := Lib.hid hX6
      clear hown3 hown5 hown6 hb4 hX6 hX5 hX3 ht5 hf5 hx6 hx3 hb3 ho3 hm3 hm6
      go_loopw [13, 38] (fun c13 c38 wr2 => SumR10 (imgL d1) w6 c13 c38 wr2) (fun _ c38 _ => jL - (intOf c38).toNat)
      case atStart => exact ⟨0, rfl, by omega, rfl, rfl⟩
      case round =>
        obtain ⟨j, rfl, hj, rfl, rfl⟩ := hrel
        rw [← HjL.out] at hj
        by_cases hlj : j < jL
        · obtain ⟨fb, fo, f, Af, cf, hfj, rfl, hcf, -⟩ := fl_at R6.out hlj
          have e1 := hcf 1 _ rfl
          have hs1 : sumV ((imgL d1).take j) + f.data.length = sumV ((imgL d1).take (j + 1)) := by rw [List.take_add_one, hfj, Option.toList_some, sumV_snoc]
          have hs2 := sumV_take_le (imgL d1) (j + 1)
          have hs3 : sumV ((imgL d1).take j) + f.data.length ≤ 67108864 := by omega
          have Hs1 := Lib.hid hs1
          obtain ⟨sj, hsj⟩ : ∃ sj, sj = sumV ((imgL d1).take j) := ⟨_, rfl⟩
          rw [← hsj] at hs3 Hs1 ⊢
          clear hs1 hs2 hcf hfj hsj
          go_wp2_with fail
          go_roundw
          case rel => exact ⟨j + 1, by go_num, by rw [← HjL.out]; omega, by rw [← Hs1.out]; go_num, rfl⟩
          case measure => simp [intOf]; omega
        · obtain rfl : j = jL := by omega
          have hsum : (sumV ((imgL d1).take j) : Int) = d1.used := by rw [hus, List.take_of_length_le (by rw [HjL.out]; exact Nat.le_refl _)]
          rw [hsum]
          have t1 : decide (d1.room - d1.used < 0) = false := by simpa using hfr
          have t2 : decide (max 0 room < d1.used) = false := by simpa using hmx
          have t0 : (d1.used != d1.used) = false := by simp
          have hst2 : d1.steps ≤ (k + 1 : Nat) := by omega
          have hrm2 := Lib.hid (show d1.room = min (max 0 room) 67108864 from by rw [hrm1, hrm])
          clear hsum hus hfr hmx hcap hst hst1 hrm hrm1
          by_cases hE : E1 = 0 ∨ E1 = 3
          · rcases hE with rfl | rfl
            all_goals
              go_wp2_with (first
                | (go_at_call 31; (with_reducible refine (KU.out _ _ _ (HX8.ext_ (by repeat (first | with_reducible exact Below.refl _ _ | with_reducible assumption | with_reducible refine ExtD ?_ | with_reducible refine ExtDN ?_ | with_reducible refine ExtA ?_ | (with_reducible refine ExtR ?_ ?_; (first | omega | (dsimp only; omega) | (simp; done) | (simp; omega))) | (with_reducible refine ExtS ?_ ?_; (first | omega | (dsimp only; omega) | (simp; done) | (simp; omega))) | with_reducible refine Ext.tr ?_ (by with_reducible assumption))))).mono ?_); rintro e w9 ⟨rfl, hx9⟩)
                | (go_at_call 21; (with_reducible refine (KF.out _ _ _ HX7).mono ?_); rintro e w8 ⟨rfl, hx8⟩; have HX8 := HX7.ext_ hx8)
                | (go_at_call 31; (with_reducible refine (KU.out _ _ _ HX6.out).mono ?_); rintro e w7 ⟨rfl, hx7⟩; have HX7 := HX6.out.ext_ hx7))
              go_roundw
              case rel => exact ⟨k + 1, d1, _, _, by go_num, HI1.out, hst2, hrm2.out, HX8.ext_ (by repeat (first | with_reducible exact Below.refl _ _ | with_reducible assumption | with_reducible refine ExtD ?_ | with_reducible refine ExtDN ?_ | with_reducible refine ExtA ?_ | (with_reducible refine ExtR ?_ ?_; (first | omega | (dsimp only; omega) | (simp; done) | (simp; omega))) | (with_reducible refine ExtS ?_ ?_; (first | omega | (dsimp only; omega) | (simp; done) | (simp; omega))) | with_reducible refine Ext.tr ?_ (by with_reducible assumption)))⟩
              case measure => simp [intOf]; omega
          · have t3 : ((E1 : Int) != 0) = true := by simp; omega
            have t4 : ((E1 : Int) != 3) = true := by simp; omega
            have hfe : imgL d1 = imgL d := by unfold imgL; rw [Hbad.out (by omega) (by omega)]
            have hij : iL = j := by rw [HiL.out, HjL.out, hfe]
            have KS := Lib.hid fun (w' : World) (hx : Ext w6 w') => fsame_yes A3 A6 j c3 c6 (imgL d1) w' (by have := R3.out; rw [hij, ← hfe] at this; exact this.ext hx) (R6.out.ext hx) (by simp only [maxLen]; omega) (fun f hf => by have := Hfl.out f hf; simp only [maxLen]; omega)
            subst hij
            clear hfe hE
            go_wp2_with (first
              | (go_at_call 31; (with_reducible refine (KU.out _ _ _ (HX8.ext_ (by repeat (first | with_reducible exact Below.refl _ _ | with_reducible assumption | with_reducible refine ExtD ?_ | with_reducible refine ExtDN ?_ | with_reducible refine ExtA ?_ | (with_reducible refine ExtR ?_ ?_; (first | omega | (dsimp only; omega) | (simp; done) | (simp; omega))) | (with_reducible refine ExtS ?_ ?_; (first | omega | (dsimp only; omega) | (simp; done) | (simp; omega))) | with_reducible refine Ext.tr ?_ (by with_reducible assumption))))).mono ?_); rintro e w9 ⟨rfl, hx9⟩)
              | (go_at_call 21; (with_reducible refine (KF.out _ _ _ HX7).mono ?_); rintro e w8 ⟨rfl, hx8⟩; have HX8 := HX7.ext_ hx8)
              | (go_at_call 31; (with_reducible refine (KU.out _ _ _ HX6.out).mono ?_); rintro e w7 ⟨rfl, hx7⟩; have HX7 := HX6.out.ext_ hx7)
              | (go_at_call 32; (with_reducible refine (KS.out _ (by repeat (first | with_reducible exact Below.refl _ _ | with_reducible assumption | with_reducible refine ExtD ?_ | with_reducible refine ExtDN ?_ | with_reducible refine ExtA ?_ | (with_reducible refine ExtR ?_ ?_; (first | omega | (dsimp only; omega) | (simp; done) | (simp; omega))) | (with_reducible refine ExtS ?_ ?_; (first | omega | (dsimp only; omega) | (simp; done) | (simp; omega))) | with_reducible refine Ext.tr ?_ (by with_reducible assumption)))).mono ?_); rintro e w10 ⟨rfl, hx10⟩))
            go_roundw
            case rel => exact ⟨k + 1, d1, _, _, by go_num, HI1.out, hst2, hrm2.out, HX8.ext_ (by repeat (first | with_reducible exact Below.refl _ _ | with_reducible assumption | with_reducible refine ExtD ?_ | with_reducible refine ExtDN ?_ | with_reducible refine ExtA ?_ | (with_reducible refine ExtR ?_ ?_; (first | omega | (dsimp only; omega) | (simp; done) | (simp; omega))) | (with_reducible refine ExtS ?_ ?_; (first | omega | (dsimp only; omega) | (simp; done) | (simp; omega))) | with_reducible refine Ext.tr ?_ (by with_reducible assumption)))⟩
            case measure => simp [intOf]; omega
    · have d3 : decide (k < ops.length) = false := by simpa using hlt
      go_wp2_with fail
      go_ret
      exact ⟨rfl, HX.out.ext⟩
end Go.Proofs.Ytomnllkliifeoaa
