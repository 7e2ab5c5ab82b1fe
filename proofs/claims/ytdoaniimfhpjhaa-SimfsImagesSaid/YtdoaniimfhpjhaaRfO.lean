/-
  The walk of SimfsImages.
-/
import Derived.Test.YtdoaniimfhpjhaaRfN
import Derived.Test.YtdoaniimfhpjhaaShpA
namespace Go.Proofs.Ytdoaniimfhpjhaa
open Go.RowKit
set_option linter.unusedVariables false
set_option linter.unusedSimpArgs false
open Go.Maps
/-- A list of files of the call's own whose bytes are written over: all else stays. -/
def XoR (w1 w6 : World) (A : Option Addr) (n c lo : Nat) (S : List Sp) (wr : World) : Prop := Shp wr w1.heap.size A n c S ∧ Kp lo w6 wr ∧ Ext w1 wr
theorem XoR.byte {w1 w6 wr : World} {A : Option Addr} {n c lo k q : Nat} {S : List Sp} {s : Sp} (h : XoR w1 w6 A n c lo S wr) (hk : S[k]? = some s) (hB : s.B = some ⟨q, 0, none⟩) (hq : w1.heap.size ≤ q) (hql : q < lo) (j : Nat) (x : Int) : XoR w1 w6 A n c lo S (wr.setCell ⟨q, j, none⟩ (.int .u8 x)) :=
  ⟨h.1.setB hk hB j x, ⟨by have := h.2.1.1; simpa using this, fun i h1 h2 => (Below.heap_setCell wr ⟨q, j, none⟩ _ i (fun hc => by dsimp only at hc; omega)).trans (h.2.1.2 i h1 h2)⟩, ExtS hq h.2.2⟩
def XoA (bd : Nat) (w1 w6 : World) (A : Option Addr) (n c lo : Nat) (S : List Sp) (ck : Value) (wr : World) : Prop := ∃ k : Nat, ck = .int .i64 k ∧ k ≤ bd ∧ XoR w1 w6 A n c lo S wr
theorem kp_turn {w1 w6 wr : World} {lo : Nat} (h6 : Ext w1 w6) (hk : Kp lo w6 wr) (hx : Ext w1 wr) : Turn (List.range' w1.heap.size (lo - w1.heap.size)) w6 wr :=
  ⟨hx.os.trans h6.os.symm, hx.tape.trans h6.tape.symm, hx.output.trans h6.output.symm, hk.1, fun k hlt hn => by
    by_cases h1 : lo ≤ k
    · exact hk.2 k h1 hlt
    · by_cases h2 : k < w1.heap.size
      · exact (hx.block k h2).trans (h6.block k h2).symm
      · exact absurd (List.mem_range'_1.2 ⟨by omega, by omega⟩) hn⟩
set_option maxRecDepth 100000 in
set_option maxHeartbeats 16000000 in
theorem simfsImages_w0 (room : Int) (A0 : Option Addr) (c0 : Nat) (n0 : Nat) (fs : List FV) (A2 : Option Addr) (c2 : Nat) (ops : List HO) (w : World) (hroom : IsI64 room) (hfl : FlRd w A0 n0 fs) (hflb : ∀ f ∈ fs, f.data.length ≤ 140737488351232 ∧ IsI64 f.safe) (hn48 : n0 * 48 ≤ 140737488351232) (hr : OpsRd w A2 ops) (hl : ops.length * 104 ≤ 140737488351232) :
    Calls Try.prog 4 #[.int .i64 room, .slice A0 n0 c0, .slice A2 ops.length c2] w fun e w' => e = .returned (.bool true) ∧ Ext w w' := by
  have KH := Lib.hid head_any
  have hal := alloc_op
  have hdk := dk_zero
  have Hr := Lib.hid hr
  have KC := Lib.hid fun W (hx : Ext w W) => vcopy_any A0 n0 c0 fs W (hfl.ext hx) hn48 (fun f hf => by have := (hflb f hf).1; omega)
  have KM := Lib.hid fun W (hx : Ext w W) => rmount_any room A0 n0 c0 fs W (hfl.ext hx) hflb
  have KN := Lib.hid fun A1 c1 W (h : FlRd W A1 n0 fs) => mount_any room A1 n0 c1 fs W h hflb
  have hfn := hfl.len
  unfold GaveF at KC
  rw [hfn] at KC
  have KS := Lib.hid fun A1 c1 W (hx : Ext w W) (h : FlRd W A1 n0 fs) => fsame_yes A1 A0 n0 c1 c0 fs W h (hfl.ext hx) (by simp only [maxLen]; omega) (fun f hf => by have := (hflb f hf).1; simp only [maxLen]; omega)
  have HIv := Lib.hid fun d' (h : mountD room fs = (d', 0)) => inv_mountD h
  obtain ⟨r, hrr⟩ : ∃ r, r = mountD room fs := ⟨_, rfl⟩
  rw [← hrr] at KM KN HIv
  obtain ⟨d0, E⟩ := r
  unfold MtPost at KM
  unfold MountPost at KN
  dsimp only at KM KN
  have Hfn := Lib.hid hfn
  have Hflb := Lib.hid hflb
  clear hr hfl hflb hfn hrr
  by_cases hE : E = 0
  case neg =>
    simp only [if_neg hE] at KM KN
    have x1 : ((E : Int) != (E : Int)) = false := by simp
    have x2 : ((E : Int) == 0) = false := by simp; omega
    clear hE HIv
    go_enter Try.func4, Try.ntmps4
    go_wp2_with (first
      | (go_at_call 5; (with_reducible refine (KH.out _).mono ?_); rintro e w1 ⟨rfl, hx1⟩)
      | (go_at_call 12; (with_reducible refine (KC.out _ hx1).mono ?_); rintro e w2 ⟨A1, c1, hv1, rfl, hm1, hx2, ho1⟩)
      | (go_at_call 13; (with_reducible refine (KM.out _ (by repeat (first | with_reducible exact Below.refl _ _ | with_reducible assumption | with_reducible refine ExtD ?_ | with_reducible refine ExtDN ?_ | with_reducible refine ExtA ?_ | (with_reducible refine ExtR ?_ ?_; (first | omega | (dsimp only; omega) | (simp; done) | (simp; omega))) | (with_reducible refine ExtS ?_ ?_; (first | omega | (dsimp only; omega) | (simp; done) | (simp; omega))) | with_reducible refine Ext.tr ?_ (by with_reducible assumption)))).mono ?_); rintro e w3 ⟨rfl, hx3⟩)
      | (go_at_call 14; (with_reducible refine (KN.out _ _ _ (hv_fl (ho1.ext (by repeat (first | with_reducible exact Below.refl _ _ | with_reducible assumption | with_reducible refine ExtD ?_ | with_reducible refine ExtDN ?_ | with_reducible refine ExtA ?_ | (with_reducible refine ExtR ?_ ?_; (first | omega | (dsimp only; omega) | (simp; done) | (simp; omega))) | (with_reducible refine ExtS ?_ ?_; (first | omega | (dsimp only; omega) | (simp; done) | (simp; omega))) | with_reducible refine Ext.tr ?_ (by with_reducible assumption)))) hm1)).mono ?_); rintro e w5 ⟨rfl, hx5⟩)
      | (go_at_call 15; (with_reducible refine (KS.out _ _ _ (by repeat (first | with_reducible exact Below.refl _ _ | with_reducible assumption | with_reducible refine ExtD ?_ | with_reducible refine ExtDN ?_ | with_reducible refine ExtA ?_ | (with_reducible refine ExtR ?_ ?_; (first | omega | (dsimp only; omega) | (simp; done) | (simp; omega))) | (with_reducible refine ExtS ?_ ?_; (first | omega | (dsimp only; omega) | (simp; done) | (simp; omega))) | with_reducible refine Ext.tr ?_ (by with_reducible assumption))) (hv_fl (ho1.ext (by repeat (first | with_reducible exact Below.refl _ _ | with_reducible assumption | with_reducible refine ExtD ?_ | with_reducible refine ExtDN ?_ | with_reducible refine ExtA ?_ | (with_reducible refine ExtR ?_ ?_; (first | omega | (dsimp only; omega) | (simp; done) | (simp; omega))) | (with_reducible refine ExtS ?_ ?_; (first | omega | (dsimp only; omega) | (simp; done) | (simp; omega))) | with_reducible refine Ext.tr ?_ (by with_reducible assumption)))) hm1)).mono ?_); rintro e w6 ⟨rfl, hx6⟩)
      | (change wpList _ _ _ (⟨none, .store _ (.tmp 8) _, _, _, _, _⟩ :: _) _ _; refine wpL_store_new rfl 28 (.tmp 8) (.tmp 31) rfl w3.heap.size 28 #[.slice none 0 0, .int .i64 0, .int .i64 0, .bool false, .int .i64 0, .int .i64 0] #[.slice none 0 0, .int .i64 0, .int .i64 0, .bool false, .int .i64 0, .int .i64 0] rfl rfl rfl rfl (dk_one _ _ _ _ _ _ _ _) 6 disk_wide rfl ?_))
    go_ret
    exact ⟨rfl, (by repeat (first | with_reducible exact Below.refl _ _ | with_reducible assumption | with_reducible refine ExtD ?_ | with_reducible refine ExtDN ?_ | with_reducible refine ExtA ?_ | (with_reducible refine ExtR ?_ ?_; (first | omega | (dsimp only; omega) | (simp; done) | (simp; omega))) | (with_reducible refine ExtS ?_ ?_; (first | omega | (dsimp only; omega) | (simp; done) | (simp; omega))) | with_reducible refine Ext.tr ?_ (by with_reducible assumption)))⟩
  subst hE
  simp only [if_true] at KM KN
  obtain ⟨hI0, hst0, -⟩ := HIv.out d0 rfl
  have hcn := hI0.cnt
  have Hst0 := Lib.hid hst0
  clear HIv hst0
  go_enter Try.func4, Try.ntmps4
  go_upto_region 10 with (first
    | (go_at_call 5; (with_reducible refine (KH.out _).mono ?_); rintro e w1 ⟨rfl, hx1⟩)
    | (go_at_call 12; (with_reducible refine (KC.out _ hx1).mono ?_); rintro e w2 ⟨A1, c1, hv1, rfl, hm1, hx2, ho1⟩)
    | (go_at_call 13; (with_reducible refine (KM.out _ (by repeat (first | with_reducible exact Below.refl _ _ | with_reducible assumption | with_reducible refine ExtD ?_ | with_reducible refine ExtDN ?_ | with_reducible refine ExtA ?_ | (with_reducible refine ExtR ?_ ?_; (first | omega | (dsimp only; omega) | (simp; done) | (simp; omega))) | (with_reducible refine ExtS ?_ ?_; (first | omega | (dsimp only; omega) | (simp; done) | (simp; omega))) | with_reducible refine Ext.tr ?_ (by with_reducible assumption)))).mono ?_); rintro e w3 ⟨A, n, c, hv, rfl, hm3, hx3, ho3⟩)
    | (go_at_call 14; (with_reducible refine (KN.out _ _ _ (hv_fl (ho1.ext (by repeat (first | with_reducible exact Below.refl _ _ | with_reducible assumption | with_reducible refine ExtD ?_ | with_reducible refine ExtDN ?_ | with_reducible refine ExtA ?_ | (with_reducible refine ExtR ?_ ?_; (first | omega | (dsimp only; omega) | (simp; done) | (simp; omega))) | (with_reducible refine ExtS ?_ ?_; (first | omega | (dsimp only; omega) | (simp; done) | (simp; omega))) | with_reducible refine Ext.tr ?_ (by with_reducible assumption)))) hm1)).mono ?_); rintro e w5 ⟨g, b, D, hs, rfl, hX5⟩; have hx5 := hX5.ext)
    | (go_at_call 15; (with_reducible refine (KS.out _ _ _ (by repeat (first | with_reducible exact Below.refl _ _ | with_reducible assumption | with_reducible refine ExtD ?_ | with_reducible refine ExtDN ?_ | with_reducible refine ExtA ?_ | (with_reducible refine ExtR ?_ ?_; (first | omega | (dsimp only; omega) | (simp; done) | (simp; omega))) | (with_reducible refine ExtS ?_ ?_; (first | omega | (dsimp only; omega) | (simp; done) | (simp; omega))) | with_reducible refine Ext.tr ?_ (by with_reducible assumption))) (hv_fl (ho1.ext (by repeat (first | with_reducible exact Below.refl _ _ | with_reducible assumption | with_reducible refine ExtD ?_ | with_reducible refine ExtDN ?_ | with_reducible refine ExtA ?_ | (with_reducible refine ExtR ?_ ?_; (first | omega | (dsimp only; omega) | (simp; done) | (simp; omega))) | (with_reducible refine ExtS ?_ ?_; (first | omega | (dsimp only; omega) | (simp; done) | (simp; omega))) | with_reducible refine Ext.tr ?_ (by with_reducible assumption)))) hm1)).mono ?_); rintro e w6 ⟨rfl, hx6⟩)
    | (change wpList _ _ _ (⟨none, .store _ (.tmp 8) _, _, _, _, _⟩ :: _) _ _; refine wpL_store_new rfl 28 (.tmp 8) (.tmp 31) rfl w3.heap.size 28 #[.slice none 0 0, .int .i64 0, .int .i64 0, .bool false, .int .i64 0, .int .i64 0] #[.slice A n c, .int .i64 d0.room, .int .i64 d0.fuse, .bool d0.down, .int .i64 d0.steps, .int .i64 d0.read] rfl rfl rfl rfl (dk_one _ _ _ _ _ _ _ _) 6 disk_wide rfl ?_))
  obtain ⟨W4, hW4⟩ : ∃ W4, W4 = w3.alloc (.cells #[.slice A n c, .int .i64 d0.room, .int .i64 d0.fuse, .bool d0.down, .int .i64 d0.steps, .int .i64 d0.read] 28) := ⟨_, rfl⟩
  rw [← hW4] at hX5 hx5
  have b8 : Blk W4 w3.heap.size 28 #[.slice A n c, .int .i64 d0.room, .int .i64 d0.fuse, .bool d0.down, .int .i64 d0.steps, .int .i64 d0.read] := by rw [hW4]; exact BlkN rfl
  have hx34 : Ext w3 W4 := by rw [hW4]; exact ExtA (Ext.rfl' _)
  clear hW4
  have hx36 : Ext w3 w6 := (hx34.tr hx5).tr hx6
  have b86 := BlkE (BlkE b8 hx5) hx6
  have ho6 := ho3.ext hx36
  have hX6 := hX5.ext_ hx6
  have hx16 : Ext w1 w6 := (hx2.tr hx3).tr hx36
  have hz12 := hx2.size
  have hz23 := hx3.size
  have hz45 : w3.heap.size ≤ W4.heap.size := hx34.size
  have hsh : XoR w1 w6 A1 n0 c1 w2.heap.size (hv1.map spOf) w6 := ⟨Shp.of (ho1.ext (hx3.tr hx36)), ⟨Nat.le_refl _, fun _ _ _ => rfl⟩, hx16⟩
  have hlo : ∀ s ∈ hv1.map spOf, ∀ r, s.row.ownBlock = some r → r < w2.heap.size := fun s hs r hr => by
    obtain ⟨x, hx, rfl⟩ := List.mem_map.1 hs
    exact ((ho1.2 x hx).lt r hr).2
  have hmx : ∀ s ∈ hv1.map spOf, s.m ≤ 140737488351232 := fun s hs => by
    obtain ⟨x, hx, rfl⟩ := List.mem_map.1 hs
    have := (Hflb.out x.1 (by rw [← hm1]; exact List.mem_map.2 ⟨x, hx, rfl⟩)).1
    exact this
  have HSH := Lib.hid hsh
  have HLO := Lib.hid hlo
  have HMX := Lib.hid hmx
  generalize hv1.map spOf = S at *
  have hn0 : n0 * 48 ≤ 140737488351232 := hn48
  clear hsh hlo hmx ho1 hm1 KC KM KN KS KH
  go_wp2_with fail
  go_loopw [59] (fun c59 wr => XoA n0 w1 w6 A1 n0 c1 w2.heap.size S c59 wr) (fun c59 _ => n0 - (intOf c59).toNat)
  case atStart => exact ⟨0, rfl, by omega, HSH.out⟩
  case round =>
    obtain ⟨k, rfl, hk, hS⟩ := hrel
    by_cases hlk : k < n0
    · obtain ⟨ba, s, rfl, hSk, e0, e1, hf, hba⟩ := hS.1.at_ hlk
      have hm := HMX.out s (List.mem_of_getElem? hSk)
      have Hs := Lib.hid hSk
      have HS := Lib.hid hS
      obtain ⟨nm, m, B, cc, sf⟩ := s
      dsimp only at hm e1
      clear hSk e0 hS
      go_wp2_with fail
      go_loopw [68] (fun c68 wr3 => XoA m w1 w6 (some ⟨ba, 0, none⟩) n0 c1 w2.heap.size S c68 wr3) (fun c68 _ => m - (intOf c68).toNat)
      case atStart => exact ⟨0, rfl, by omega, HS.out⟩
      case round =>
        obtain ⟨j, rfl, hj, hS3⟩ := hrel
        have HS3 := Lib.hid hS3
        clear e1 hf
        obtain ⟨ba2, s3, hba2, hSk3, -, e1, -, -⟩ := hS3.1.at_ hlk
        obtain rfl : s3 = ⟨nm, m, B, cc, sf⟩ := by rw [Hs.out] at hSk3; injection hSk3 with h; exact h.symm
        obtain rfl : ba = ba2 := by injection hba2 with h; injection h with h
        dsimp only at e1
        clear hba2 hSk3
        by_cases hlj : j < m
        · obtain ⟨q, x, hB, hc, hfq, hbq⟩ := hS3.1.byte Hs.out (by exact hlj)
          dsimp only at hB
          subst hB
          have hql := HLO.out _ (List.mem_of_getElem? Hs.out) q rfl
          clear hS3
          go_wp2_with fail
          go_roundw
          case rel => exact ⟨j + 1, by go_num, by omega, HS3.out.byte Hs.out rfl hbq hql j _⟩
          case measure => simp [intOf]; omega
        · have hjm : j = m := by omega
          subst hjm
          clear hS3
          go_wp2_with fail
          go_roundw
          case rel => exact ⟨k + 1, by go_num, by omega, HS3.out⟩
          case measure => simp [intOf]; omega
    · have d3 : decide (k < n0) = false := by simpa using hlk
      have ht := kp_turn hx16 hS.2.1 hS.2.2
      have hw1 := hx1.size
      have hF : ∀ r ∈ List.range' w1.heap.size (w2.heap.size - w1.heap.size), w1.heap.size ≤ r ∧ r < w2.heap.size := fun r hr => by
        have := List.mem_range'_1.1 hr
        omega
      have hX7 : FsX w wr g d0 b D hs := (hX6.low ((hx1.tr (hx2.tr hx3)).tr hx34)).keep ht (fun r hr hc => by have h1 := hX5.base r hc; have := hF r hr; omega) (fun r hr => by have := hF r hr; omega)
      have hown7 : OwnFl wr w.heap.size A n c hv := (ho6.turn_ ht (fun r hr hc => by
        have := hF r hc
        rcases hr with hr | ⟨y, hy, hr⟩
        · have := own_new_blk ho3.1 hr; omega
        · have := own_new_blk (ho3.2 y hy) hr; omega)).low (by omega)
      have b87 := ht.blk b86 (fun hc => by have := hF _ hc; omega)
      have hX56 := hX5.base
      have hoff7 : ∀ r, hvB A hv r → r ∉ foot g b hs := fun r hr hc => by
        have h1 := hX5.base r hc
        have h2 := hv_lt ho3 hr
        omega
      have hg8 : w3.heap.size ∉ foot g b hs := fun hc => by have h1 := hX5.base _ hc; have h2 := b8.lt; omega
      have hg8w : w.heap.size ≤ w3.heap.size := by omega
      generalize w3.heap.size = g8 at *
      obtain ⟨w7, hw7⟩ : ∃ w7, w7 = wr := ⟨_, rfl⟩
      rw [← hw7] at hX7 hown7 b87
      have HW7 := Lib.hid hw7
      have HX7 := Lib.hid hX7
      have HO7 := Lib.hid hown7
      have HB7 := Lib.hid b87
      have Hoff7 := Lib.hid hoff7
      have HG8 := Lib.hid hg8
      have Hm3 := Lib.hid hm3
      have HI := Lib.hid hI0
      clear hX7 hown7 b87 hoff7 hg8 hX56 hF ht hw7 hS HSH HLO HMX ho6 hX6 hX5 hx5 b86 b8 hx34 hx36 hx16 hx6 hx3 hx2 ho3 hm3 hz12 hz23 hz45 hI0
      have hsm0 : ∀ d : Dk, DkInv d → ∀ f ∈ imgL d, f.data.length ≤ maxLen := fun d h f hf => by have := (img_small h f hf).1; simp only [maxLen]; omega
      have KI0 := Lib.hid fun W (hx : Ext w7 W) => imageK (HX7.out.ext_ hx) HI.out
      unfold GaveF at KI0
      have hnl : (imgL d0).length = n := by rw [← Hm3.out, List.length_map]; exact HO7.out.len
      rw [hnl] at KI0
      have hn7 : n ≤ 700 := by rw [← hnl, imgL_len]; exact hcn
      have KS0 := Lib.hid fun A9 c9 W (hx : Ext w7 W) (h : FlRd W A9 n (imgL d0)) => fsame_yes A9 A n c9 c (imgL d0) W h (hv_fl (HO7.out.ext hx) Hm3.out) (by simp only [maxLen]; omega) (hsm0 d0 HI.out)
      have KT0 := Lib.hid fun W (hx : Ext w7 W) => told_any (HX7.out.ext_ hx) HI.out A n c (hv_fl (HO7.out.ext hx) Hm3.out)
      have Hsm := Lib.hid hsm0
      have HS8 := Lib.hid fun (w' : World) (h : Ext w7 w') => (show w'.cell? ⟨g8, 0, none⟩ = some (.slice A n c) ∧ w'.cell? ⟨g8, 1, none⟩ = some (.int .i64 d0.room) ∧ w'.cell? ⟨g8, 2, none⟩ = some (.int .i64 d0.fuse) ∧ w'.cell? ⟨g8, 3, none⟩ = some (.bool d0.down) ∧ w'.cell? ⟨g8, 4, none⟩ = some (.int .i64 d0.steps) ∧ w'.cell? ⟨g8, 5, none⟩ = some (.int .i64 d0.read) from ⟨(BlkE HB7.out h).cell 0, (BlkE HB7.out h).cell 1, (BlkE HB7.out h).cell 2, (BlkE HB7.out h).cell 3, (BlkE HB7.out h).cell 4, (BlkE HB7.out h).cell 5⟩)
      clear hnl hsm0
      rw [← HW7.out]
      go_upto_region 19 with fail
      go_region_held3 (fun w' => w'.cell? ⟨g8, 0, none⟩ = some (.slice A n c) ∧ w'.cell? ⟨g8, 1, none⟩ = some (.int .i64 d0.room) ∧ w'.cell? ⟨g8, 2, none⟩ = some (.int .i64 d0.fuse) ∧ w'.cell? ⟨g8, 3, none⟩ = some (.bool d0.down) ∧ w'.cell? ⟨g8, 4, none⟩ = some (.int .i64 d0.steps) ∧ w'.cell? ⟨g8, 5, none⟩ = some (.int .i64 d0.read)) (exact HS8.out _ (by repeat (first | with_reducible exact Below.refl _ _ | with_reducible assumption | with_reducible refine ExtD ?_ | with_reducible refine ExtDN ?_ | with_reducible refine ExtA ?_ | (with_reducible refine ExtR ?_ ?_; (first | omega | (dsimp only; omega) | (simp; done) | (simp; omega))) | (with_reducible refine ExtS ?_ ?_; (first | omega | (dsimp only; omega) | (simp; done) | (simp; omega))) | with_reducible refine Ext.tr ?_ (by with_reducible assumption))))
        (first
          | (go_at_call 16; go_loud ((with_reducible refine (KI0.out _ (by repeat (first | with_reducible exact Below.refl _ _ | with_reducible assumption | with_reducible refine ExtD ?_ | with_reducible refine ExtDN ?_ | with_reducible refine ExtA ?_ | (with_reducible refine ExtR ?_ ?_; (first | omega | (dsimp only; omega) | (simp; done) | (simp; omega))) | (with_reducible refine ExtS ?_ ?_; (first | omega | (dsimp only; omega) | (simp; done) | (simp; omega))) | with_reducible refine Ext.tr ?_ (by with_reducible assumption)))).mono ?_); rintro e w8 ⟨A8, c8, hv8, rfl, hm8, hx8, ho8⟩))
          | (go_at_call 15; go_loud ((with_reducible refine (KS0.out _ _ _ (by repeat (first | with_reducible exact Below.refl _ _ | with_reducible assumption | with_reducible refine ExtD ?_ | with_reducible refine ExtDN ?_ | with_reducible refine ExtA ?_ | (with_reducible refine ExtR ?_ ?_; (first | omega | (dsimp only; omega) | (simp; done) | (simp; omega))) | (with_reducible refine ExtS ?_ ?_; (first | omega | (dsimp only; omega) | (simp; done) | (simp; omega))) | with_reducible refine Ext.tr ?_ (by with_reducible assumption))) (hv_fl ho8 hm8)).mono ?_); rintro e w9 ⟨rfl, hx9⟩))
          | (go_at_call 8; go_loud ((with_reducible refine (KT0.out _ (by repeat (first | with_reducible exact Below.refl _ _ | with_reducible assumption | with_reducible refine ExtD ?_ | with_reducible refine ExtDN ?_ | with_reducible refine ExtA ?_ | (with_reducible refine ExtR ?_ ?_; (first | omega | (dsimp only; omega) | (simp; done) | (simp; omega))) | (with_reducible refine ExtS ?_ ?_; (first | omega | (dsimp only; omega) | (simp; done) | (simp; omega))) | with_reducible refine Ext.tr ?_ (by with_reducible assumption)))).mono ?_); rintro e w10 ⟨rfl, hx10⟩)))
      have hx7 : Ext w7 w10 := (by repeat (first | with_reducible exact Below.refl _ _ | with_reducible assumption | with_reducible refine ExtD ?_ | with_reducible refine ExtDN ?_ | with_reducible refine ExtA ?_ | (with_reducible refine ExtR ?_ ?_; (first | omega | (dsimp only; omega) | (simp; done) | (simp; omega))) | (with_reducible refine ExtS ?_ ?_; (first | omega | (dsimp only; omega) | (simp; done) | (simp; omega))) | with_reducible refine Ext.tr ?_ (by with_reducible assumption)))
      have HX10 := Lib.hid (HX7.out.ext_ hx7)
      have HO10 := Lib.hid (HO7.out.ext hx7)
      have HB10 := Lib.hid (BlkE HB7.out hx7)
      clear hx8 hx9 hx10 ho8 hm8 HX7 HO7 HB7 HS8 KI0 KS0 KT0 HW7 hx7
      go_wp2_with fail
      go_loopw [97] (fun c97 wr9 => RunR w g b g8 c97 wr9) (fun c97 _ => ops.length - (intOf c97).toNat)
      case atStart => exact ⟨0, d0, D, hs, A, n, c, hv, rfl, HI.out, by rw [Hst0.out]; exact Int.le_refl _, HX10.out, Hm3.out, HO10.out, Hoff7.out, HG8.out, hg8w, HB10.out⟩
      case round =>
        clear HX10 HO10 HB10 Hm3 Hoff7 HG8 HI Hst0 hcn hn7 hx1 hw1 hk d3 hlk hn0
        obtain ⟨k, d, D, hs, A, n, c, hv, rfl, hI, hst, hX, hmap, hown, hoff, hg8f, _, hb6⟩ := hrel
        by_cases hlt : k < ops.length
        · obtain ⟨ob, oo, o, rfl, hok, hc, ho⟩ := op_at Hr.out hlt
          have Hc := Lib.hid (range_ext hc hX.ext)
          have hst2 : d.steps ≤ 4611686018427387904 := by omega
          have hwz := hX.ext.size
          have KD := Lib.hid fun W (hx : Ext wr W) => do_any hI o A n c w.heap.size hv hmap W (hown.ext hx) (Nat.le_trans hwz hx.size) hst2 (ho.ext (hX.ext.tr hx))
          have KC := Lib.hid fun (W : World) (h : FsX w W g d b D hs) => call_any w W g b d D hs o h hI hst2 (ho.ext h.ext)
          have i1 := inv_call hI o.1 ho.2.2.2.1
          have s1 := (callD_steps d o.1).2
          obtain ⟨d1, l1, n1, E1, hc1⟩ : ∃ d1 l1 n1 E1, callD d o.1 = (d1, l1, n1, E1) := ⟨_, _, _, _, rfl⟩
          rw [hc1] at KD KC i1 s1
          unfold DoPost at KD
          unfold CallPost at KC
          dsimp only at KD KC i1 s1
          obtain ⟨a1, ha1⟩ : ∃ a1, a1 = l1.length := ⟨_, rfl⟩
          rw [← ha1] at KD KC
          have KI2 := Lib.hid fun W D5 hs5 (h : FsX w W g d1 b D5 hs5) => imageK h i1
          unfold GaveF at KI2
          have Hsm1 := Lib.hid (Hsm.out d1 i1)
          have hc700 : (imgL d1).length ≤ 700 := by rw [imgL_len]; exact i1.cnt
          have HX := Lib.hid hX
          have HI1 := Lib.hid i1
          have hs1k : d1.steps ≤ (k + 1 : Nat) := by omega
          have Hoff := Lib.hid hoff
          have Hown := Lib.hid hown
          have Hmap := Lib.hid hmap
          have B6 := Lib.hid hb6
          have G6 := Lib.hid hg8f
          have hg8r : g8 < wr.heap.size := hb6.lt
          have x1 : ((n1 : Int) != n1) = false := by simp
          have x2 : ((E1 : Int) != E1) = false := by simp
          have Ha1 := Lib.hid ha1
          have hgr : wr.heap.size ∉ foot g b hs := fun hc => by have := HX.out.lt _ hc; omega
          clear hc hok hI hX hmap hown hoff hb6 hg8f ho hc1 i1 ha1 hst hst2
          go_upto_region 24 with (first
            | (change wpList _ _ _ (⟨some 100, _, _, _, _, _⟩ :: _) _ _; refine wpL_load_op rfl (.tmp 99) rfl ob (oo + k * 7) rfl o Hc.out ?_)
            | (change wpList _ _ _ (⟨none, .store _ (.tmp 15) _, _, _, _, _⟩ :: _) _ _; refine wpL_store_new rfl 34 (.tmp 15) (.tmp 100) rfl wr.heap.size 34 (opcells noOp) (opcells o) rfl rfl rfl rfl (opcells_one o) 7 op_wide rfl ?_))
          have bo : Blk (wr.alloc (.cells (opcells o) 34)) wr.heap.size 34 (opcells o) := BlkN rfl
          have b60 : Blk (wr.alloc (.cells (opcells o) 34)) g8 28 _ := BlkA B6.out
          have hx0 : Ext wr (wr.alloc (.cells (opcells o) 34)) := ExtA (Ext.rfl' _)
          generalize hW0 : wr.alloc (.cells (opcells o) 34) = W0 at *
          have hz0 : W0.heap.size = wr.heap.size + 1 := by rw [← hW0]; simp
          have HZ0 := Lib.hid hz0
          clear hW0 hz0
          generalize hgo : wr.heap.size = go at *
          have HGO := Lib.hid hgo
          clear hgo
          go_upto_region 25 with (first
            | (change wpList _ _ _ (⟨some 102, _, _, _, _, _⟩ :: _) _ _; refine wpL_load_row (o := ⟨some 102, _, _, _, _, _⟩) rfl 28 (.tmp 8) rfl g8 28 _ 6 rfl b60 disk_wide rfl ?_)
            | (change wpList _ _ _ (⟨some 103, _, _, _, _, _⟩ :: _) _ _; refine wpL_load_row (o := ⟨some 103, _, _, _, _, _⟩) rfl 34 (.tmp 15) rfl go 34 (opcells o) 7 rfl bo op_wide rfl ?_)
            | (go_at_call 9; go_loud ((with_reducible refine (KD.out _ hx0).mono ?_); rintro e W1 ⟨A9, n9, c9, hv9, Ab, cb, rfl, hm9, hx9, ho9, hb9, hbb9⟩))
            | (change wpList _ _ _ (⟨none, .store _ (.tmp 16) _, _, _, _, _⟩ :: _) _ _; refine wpL_store_new rfl 28 (.tmp 16) (.tmp 105) rfl W1.heap.size 28 #[.slice none 0 0, .int .i64 0, .int .i64 0, .bool false, .int .i64 0, .int .i64 0] #[.slice A9 n9 c9, .int .i64 d1.room, .int .i64 d1.fuse, .bool d1.down, .int .i64 d1.steps, .int .i64 d1.read] rfl rfl rfl rfl (dk_one _ _ _ _ _ _ _ _) 6 disk_wide rfl ?_))
          have b9 : Blk (W1.alloc (.cells #[.slice A9 n9 c9, .int .i64 d1.room, .int .i64 d1.fuse, .bool d1.down, .int .i64 d1.steps, .int .i64 d1.read] 28)) W1.heap.size 28 #[.slice A9 n9 c9, .int .i64 d1.room, .int .i64 d1.fuse, .bool d1.down, .int .i64 d1.steps, .int .i64 d1.read] := BlkN rfl
          have b62 : Blk (W1.alloc (.cells #[.slice A9 n9 c9, .int .i64 d1.room, .int .i64 d1.fuse, .bool d1.down, .int .i64 d1.steps, .int .i64 d1.read] 28)) g8 28 _ := BlkA (BlkE b60 hx9)
          have bo2 : Blk (W1.alloc (.cells #[.slice A9 n9 c9, .int .i64 d1.room, .int .i64 d1.fuse, .bool d1.down, .int .i64 d1.steps, .int .i64 d1.read] 28)) go 34 (opcells o) := BlkA (BlkE bo hx9)
          have hx2 : Ext wr (W1.alloc (.cells #[.slice A9 n9 c9, .int .i64 d1.room, .int .i64 d1.fuse, .bool d1.down, .int .i64 d1.steps, .int .i64 d1.read] 28)) := ExtA (hx0.tr hx9)
          have ho2 : OwnFl (W1.alloc (.cells #[.slice A9 n9 c9, .int .i64 d1.room, .int .i64 d1.fuse, .bool d1.down, .int .i64 d1.steps, .int .i64 d1.read] 28)) w.heap.size A9 n9 c9 hv9 := ho9.ext (ExtA (Ext.rfl' _))
          have hbb2 : (W1.alloc (.cells #[.slice A9 n9 c9, .int .i64 d1.room, .int .i64 d1.fuse, .bool d1.down, .int .i64 d1.steps, .int .i64 d1.read] 28)).ownsRow W0.heap.size 5 1 (.slice Ab a1 cb) a1 (u8s l1) := own_ext (ExtA (Ext.rfl' _)) hbb9
          generalize W1.heap.size = g9 at *
          generalize W1.alloc (.cells #[.slice A9 n9 c9, .int .i64 d1.room, .int .i64 d1.fuse, .bool d1.down, .int .i64 d1.steps, .int .i64 d1.read] 28) = W2 at *
          have hz02 : W0.heap.size ≤ W2.heap.size := by have h1 := hx2.size; have h2 := bo2.lt; have h3 := HZ0.out; omega
          clear b60 bo hx0 hx9 ho9 hbb9
          go_upto_region 26 with (first
            | (change wpList _ _ _ (⟨some 109, _, _, _, _, _⟩ :: _) _ _; refine wpL_load_row (o := ⟨some 109, _, _, _, _, _⟩) rfl 28 (.tmp 16) rfl g9 28 _ 6 rfl b9 disk_wide rfl ?_)
            | (change wpList _ _ _ (⟨none, .store _ (.tmp 8) _, _, _, _, _⟩ :: _) _ _; refine wpL_store_row rfl 28 (.tmp 8) (.tmp 109) rfl g8 28 _ _ rfl rfl b62 rfl (dk_one _ _ _ _ _ _ _ _) 6 disk_wide rfl ?_))
          have hX3 : FsX w (W2.setRow g8 #[.slice A9 n9 c9, .int .i64 d1.room, .int .i64 d1.fuse, .bool d1.down, .int .i64 d1.steps, .int .i64 d1.read]) g d b D hs := (HX.out.ext_ hx2).keep turn_row (fun r hr => by simp only [List.mem_singleton] at hr; subst hr; exact G6.out) (fun r hr => by simp only [List.mem_singleton] at hr; omega)
          have ho3 : OwnFl (W2.setRow g8 #[.slice A9 n9 c9, .int .i64 d1.room, .int .i64 d1.fuse, .bool d1.down, .int .i64 d1.steps, .int .i64 d1.read]) w.heap.size A9 n9 c9 hv9 := dofl_row b62 ho2
          have hbb3 := own_setRT (ds := #[.slice A9 n9 c9, .int .i64 d1.room, .int .i64 d1.fuse, .bool d1.down, .int .i64 d1.steps, .int .i64 d1.read]) hbb2 b62 (by decide)
          have b63 : Blk (W2.setRow g8 #[.slice A9 n9 c9, .int .i64 d1.room, .int .i64 d1.fuse, .bool d1.down, .int .i64 d1.steps, .int .i64 d1.read]) g8 28 #[.slice A9 n9 c9, .int .i64 d1.room, .int .i64 d1.fuse, .bool d1.down, .int .i64 d1.steps, .int .i64 d1.read] := Blk.setRow_ b62
          have bo3 : Blk (W2.setRow g8 #[.slice A9 n9 c9, .int .i64 d1.room, .int .i64 d1.fuse, .bool d1.down, .int .i64 d1.steps, .int .i64 d1.read]) go 34 (opcells o) := BlkR (by omega) bo2
          have hz3 : (W2.setRow g8 #[.slice A9 n9 c9, .int .i64 d1.room, .int .i64 d1.fuse, .bool d1.down, .int .i64 d1.steps, .int .i64 d1.read]).heap.size = W2.heap.size := by simp [World.setRow]
          have ho9lt := fun r (hr : hvB A9 hv9 r) => hv_lt ho3 hr
          generalize W2.setRow g8 #[.slice A9 n9 c9, .int .i64 d1.room, .int .i64 d1.fuse, .bool d1.down, .int .i64 d1.steps, .int .i64 d1.read] = W3 at *
          clear b9 b62 bo2 hx2 ho2 hbb2
          go_upto_region 27 with (first
            | (change wpList _ _ _ (⟨some 112, _, _, _, _, _⟩ :: _) _ _; refine wpL_load_row (o := ⟨some 112, _, _, _, _, _⟩) rfl 34 (.tmp 15) rfl go 34 (opcells o) 7 rfl bo3 op_wide rfl ?_)
            | (go_at_call 10; go_loud ((with_reducible refine (KC.out _ hX3).mono ?_); rintro e W5 ⟨A5, c5, rfl, ⟨D5, hs5, hX5, ht5, hf5⟩, hown5⟩)))
          have b65 := ht5.blk b63 G6.out
          have hoff5 : ∀ r, hvB A9 hv9 r → r ∉ foot g b hs := fun r hr hc => by
            rcases hb9 r hr with h1 | h1
            · exact Hoff.out r h1 hc
            · have := HX.out.lt r hc; have := HZ0.out; have := HGO.out; omega
          have ho5 := ho3.turn_ ht5 hoff5
          have hoffn : ∀ r, hvB A9 hv9 r → r ∉ foot g b hs5 := fun r hr hc => by
            rcases hf5 r hc with h1 | h1
            · exact hoff5 r hr h1
            · have := ho9lt r hr; omega
          have hg8n : g8 ∉ foot g b hs5 := fun hc => by
            rcases hf5 g8 hc with h1 | h1
            · exact G6.out h1
            · have := b63.lt; omega
          have hbb5 : Rd W5 Ab a1 (u8s l1) := rd_own (ht5.own hbb3 (fun r hr hc => by have h1 := (hbb3.lt r hr).1; have h2 := HX.out.lt r hc; have := HZ0.out; have := HGO.out; omega))
          have hm95 : FlRd W5 A9 n9 (imgL d1) := hv_fl ho5 hm9
          have hn9 : (imgL d1).length = n9 := by rw [← hm9, List.length_map]; exact ho5.len
          rw [hn9] at KI2 hc700
          have KS2 := Lib.hid fun A8 c8 W (hx : Ext W5 W) (h : FlRd W A8 n9 (imgL d1)) => fsame_yes A8 A9 n9 c8 c9 (imgL d1) W h (hm95.ext hx) (by simp only [maxLen]; omega) Hsm1.out
          have KI3 := Lib.hid fun W (hx : Ext W5 W) => KI2.out W D5 hs5 (hX5.ext_ hx)
          have q := Lib.hid fun w6 (hx : Ext W5 w6) => (BlkE b65 hx).cell 0
          have HX5 := Lib.hid hX5
          have HO5 := Lib.hid ho5
          have HM9 := Lib.hid hm9
          have HB65 := Lib.hid b65
          have Hoffn := Lib.hid hoffn
          have Hg8n := Lib.hid hg8n
          clear hX3 ho3 hbb3 b63 bo3 ht5 hf5 hown5 hbb5 ho9lt hoff5 hm95 hX5 ho5 hm9 b65 hoffn hg8n hn9 KD KC KI2 hb9
          go_region_held3 (fun w' => w'.cell? ⟨g8, 0, none⟩ = some (.slice A9 n9 c9)) (exact q.out _ (by repeat (first | with_reducible exact Below.refl _ _ | with_reducible assumption | with_reducible refine ExtD ?_ | with_reducible refine ExtDN ?_ | with_reducible refine ExtA ?_ | (with_reducible refine ExtR ?_ ?_; (first | omega | (dsimp only; omega) | (simp; done) | (simp; omega))) | (with_reducible refine ExtS ?_ ?_; (first | omega | (dsimp only; omega) | (simp; done) | (simp; omega))) | with_reducible refine Ext.tr ?_ (by with_reducible assumption))))
            (first
              | (go_at_call 16; go_loud ((with_reducible refine (KI3.out _ (by repeat (first | with_reducible exact Below.refl _ _ | with_reducible assumption | with_reducible refine ExtD ?_ | with_reducible refine ExtDN ?_ | with_reducible refine ExtA ?_ | (with_reducible refine ExtR ?_ ?_; (first | omega | (dsimp only; omega) | (simp; done) | (simp; omega))) | (with_reducible refine ExtS ?_ ?_; (first | omega | (dsimp only; omega) | (simp; done) | (simp; omega))) | with_reducible refine Ext.tr ?_ (by with_reducible assumption)))).mono ?_); rintro e w8 ⟨A8, c8, hv8, rfl, hm8, hx8, ho8⟩))
              | (go_at_call 15; go_loud ((with_reducible refine (KS2.out _ _ _ (by repeat (first | with_reducible exact Below.refl _ _ | with_reducible assumption | with_reducible refine ExtD ?_ | with_reducible refine ExtDN ?_ | with_reducible refine ExtA ?_ | (with_reducible refine ExtR ?_ ?_; (first | omega | (dsimp only; omega) | (simp; done) | (simp; omega))) | (with_reducible refine ExtS ?_ ?_; (first | omega | (dsimp only; omega) | (simp; done) | (simp; omega))) | with_reducible refine Ext.tr ?_ (by with_reducible assumption))) (hv_fl ho8 hm8)).mono ?_); rintro e w9 ⟨rfl, hx9⟩)))
          have hx59 : Ext W5 w9 := (by repeat (first | with_reducible exact Below.refl _ _ | with_reducible assumption | with_reducible refine ExtD ?_ | with_reducible refine ExtDN ?_ | with_reducible refine ExtA ?_ | (with_reducible refine ExtR ?_ ?_; (first | omega | (dsimp only; omega) | (simp; done) | (simp; omega))) | (with_reducible refine ExtS ?_ ?_; (first | omega | (dsimp only; omega) | (simp; done) | (simp; omega))) | with_reducible refine Ext.tr ?_ (by with_reducible assumption)))
          go_wp2_with fail
          go_roundw
          case rel => exact ⟨k + 1, d1, D5, hs5, A9, n9, c9, hv9, by go_num, HI1.out, hs1k, HX5.out.ext_ hx59, HM9.out, HO5.out.ext hx59, Hoffn.out, Hg8n.out, hg8w, BlkE HB65.out hx59⟩
          case measure => simp [intOf]; omega
        · have d3 : decide (k < ops.length) = false := by simpa using hlt
          have hx := hX.ext
          clear hX hmap hown hoff hI
          go_wp2_with fail
          go_ret
          exact ⟨rfl, hx⟩
theorem simfsImages_walk (room : Int) (A : Option Addr) (fc : Nat) (files : List HV) (A2 : Option Addr) (c : Nat) (ops : List HO) (w : World) (hroom : IsI64 room)
    (hf : FlRd w A files.length (files.map (·.1))) (hfl : files.length * 48 ≤ 140737488351232) (hfs : ∀ g ∈ files, g.1.data.length ≤ 140737488351232 ∧ IsI64 g.1.safe) (hr : OpsRd w A2 ops) (hl : ops.length * 104 ≤ 140737488351232) :
    Calls Try.prog 4 #[.int .i64 room, .slice A files.length fc, .slice A2 ops.length c] w fun e w' => e = .returned (.bool true) ∧ Ext w w' :=
  simfsImages_w0 room A fc files.length (files.map (·.1)) A2 c ops w hroom hf (fun f h => by obtain ⟨g, hg, rfl⟩ := List.mem_map.1 h; exact hfs g hg) hfl hr hl
end Go.Proofs.Ytdoaniimfhpjhaa
