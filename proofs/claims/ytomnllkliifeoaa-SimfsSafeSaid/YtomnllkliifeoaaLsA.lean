/-
  The walk of SimfsSafe.
-/
import Derived.Test.YtomnllkliifeoaaFsV
namespace Go.Proofs.Ytomnllkliifeoaa
open Go.RowKit
set_option linter.unusedVariables false
set_option linter.unusedSimpArgs false
open Go.Maps
def nmL : ByteArray := ⟨#[108, 111, 103]⟩
theorem rL : rightB nmL = true := by decide
def dS0 : Dk := ⟨[⟨nmL, [], 0⟩], 67108864, 0, 1, 0, 0, false⟩
def dS1 : Dk := ⟨[⟨nmL, [7], 0⟩], 67108864, 1, 2, 0, 0, false⟩
def dS2 (b : List UInt8) : Dk := ⟨[⟨nmL, 7 :: b, 0⟩], 67108864, 1 + (b.length : Nat), 3, 0, 0, false⟩
def dS3 (b : List UInt8) : Dk := ⟨[⟨nmL, 7 :: b, (7 :: b).length⟩], 67108864, 1 + (b.length : Nat), 4, 0, 0, false⟩
theorem openL {d : Dk} (hd : d.down = false) {D : List UInt8} {S : Nat} (hf : d.files = [⟨nmL, D, S⟩]) : openE d nmL = 0 := by
  unfold openE
  rw [hd, rL, hf]
  simp
theorem cS0 : createD (newD 67108864) nmL = (dS0, 0) := by
  have h1 : openE (newD 67108864) nmL = 51 := by unfold openE; rw [rL]; rfl
  unfold createD
  rw [h1]
  rfl
theorem cS1 : appendD dS0 nmL [7] = (dS1, 0) := by
  unfold appendD
  rw [openL (d := dS0) rfl rfl]
  rfl
theorem cS2 (b : List UInt8) (h : ¬ (67108863 : Int) < (b.length : Nat)) : appendD dS1 nmL b = (dS2 b, 0) := by
  unfold appendD
  rw [openL (d := dS1) rfl rfl, if_neg (by simp), if_neg (by unfold dS1; dsimp only; omega)]
  simp [stepD, dS1, dS2, dataD]
theorem cS2n (b : List UInt8) (h : (67108863 : Int) < (b.length : Nat)) : appendD dS1 nmL b = (dS1, 54) := by
  unfold appendD
  rw [openL (d := dS1) rfl rfl, if_neg (by simp), if_pos (by unfold dS1; dsimp only; omega)]
theorem cS3 (b : List UInt8) : syncD (dS2 b) nmL = (dS3 b, 0) := by
  unfold syncD
  rw [openL (d := dS2 b) rfl rfl, if_neg (by simp)]
  simp [stepD, dS2, dS3, dataD]
theorem invS1 : DkInv dS1 ∧ DkInv dS0 := by
  have h0 := inv_create (inv_new 67108864) nmL
  rw [cS0] at h0
  have h1 := inv_append h0 nmL [7]
  rw [cS1] at h1
  exact ⟨h1, h0⟩
theorem invS3 (b : List UInt8) (h : ¬ (67108863 : Int) < (b.length : Nat)) : DkInv (dS2 b) ∧ DkInv (dS3 b) := by
  have h2 := inv_append invS1.1 nmL b
  rw [cS2 b h] at h2
  have h3 := inv_sync h2 nmL
  rw [cS3] at h3
  exact ⟨h2, h3⟩
/-- What was synced is safe. -/
def SafeI (want : List UInt8) (d : Dk) : Prop := DkInv d ∧ d.fuse = 0 ∧ d.down = false ∧ ∃ D S, d.files = [⟨nmL, D, S⟩] ∧ want.length ≤ S ∧ D.take want.length = want
theorem safeI_start (b : List UInt8) (h : ¬ (67108863 : Int) < (b.length : Nat)) : SafeI (7 :: b) (dS3 b) := ⟨(invS3 b h).2, rfl, rfl, 7 :: b, _, rfl, Nat.le_refl _, List.take_length⟩
theorem safeI_append {want : List UInt8} {d : Dk} (h : SafeI want d) (m : List UInt8) : SafeI want (appendD d nmL m).1 := by
  obtain ⟨h1, h2, h3, D, S, h4, h5, h6⟩ := h
  refine ⟨inv_append h1 nmL m, ?_⟩
  have hs : S ≤ D.length := h1.safe ⟨nmL, D, S⟩ (by rw [h4]; simp)
  unfold appendD
  rw [openL h3 h4, if_neg (by simp)]
  split
  · exact ⟨h2, h3, D, S, h4, h5, h6⟩
  · have e : stepD d = ({ d with steps := d.steps + 1 }, true) := by unfold stepD; rw [h2]; rfl
    rw [e]
    refine ⟨h2, h3, D ++ m, S, ?_, h5, ?_⟩
    · simp [dataD, h4]
    · rw [List.take_append_of_le_length (by omega), h6]
theorem sort_one (f : Fil) : sortF [f] = [f] := by simp [sortF]
theorem safeI_restart {want : List UInt8} {d : Dk} (h : SafeI want d) (keep : List Int) : SafeI want (restartD d keep) := by
  obtain ⟨h1, h2, h3, D, S, h4, h5, h6⟩ := h
  refine ⟨inv_restart h1 keep, rfl, rfl, D.take (S + restK keep 0 ⟨nmL, D, S⟩), S + restK keep 0 ⟨nmL, D, S⟩, ?_, by omega, ?_⟩
  · unfold restartD restL
    rw [h4, sort_one]
    rfl
  · rw [List.take_take, Nat.min_eq_left (by omega), h6]
theorem safeI_read {want : List UInt8} {d : Dk} (h : SafeI want d) : ∃ d', readD d nmL 0 (want.length : Nat) = (d', want, 0) ∧ SafeI want d' ∧ d'.steps = d.steps := by
  have hh := h
  obtain ⟨h1, h2, h3, D, S, h4, h5, h6⟩ := h
  have hs : S ≤ D.length := h1.safe ⟨nmL, D, S⟩ (by rw [h4]; simp)
  have hg : getF d nmL = some ⟨nmL, D, S⟩ := by unfold getF; rw [h4]; simp
  have hi := inv_read h1 nmL 0 (want.length : Nat)
  refine ⟨{ d with read := wrap64 (d.read + (want.length : Nat)) }, ?_, ?_, rfl⟩
  · unfold readD
    rw [openL h3 h4, if_neg (by simp), hg]
    refine (if_neg ?_).trans ?_
    · dsimp only [Option.map_some, Option.getD_some]; omega
    · simp [h6]
  · refine ⟨?_, h2, h3, D, S, h4, h5, h6⟩
    exact h1.of h1.ok.1 h1.ok.2.1 rfl h1.safe h1.nd h1.rt h1.fuse h1.steps h1.cnt
theorem appendD_steps (d : Dk) (nm : ByteArray) (l : List UInt8) : d.steps ≤ (appendD d nm l).1.steps ∧ (appendD d nm l).1.steps ≤ d.steps + 1 := by
  have := stepD_steps d
  unfold appendD
  split
  · dsimp only; omega
  · split <;> (dsimp only; omega)
def GaveW (W w : World) (g b : Nat) (hs : List HF) (want : List UInt8) (st : Int) (e : Ending) (w' : World) : Prop :=
  ∃ d' A c, e = .returned (.tuple #[.slice A want.length c, .int .i64 0]) ∧ SafeI want d' ∧ d'.steps = st ∧ FsTo W w w' g b hs d' ∧ w'.ownsRow w.heap.size 5 1 (.slice A want.length c) want.length (u8s want)
def SafeR (W w0 : World) (g b : Nat) (want : List UInt8) (Aw : Option Addr) (cw : Nat) (c47 : Value) (wr : World) : Prop :=
  ∃ (k : Nat) (d : Dk) (D : DataW Value) (hs : List HF), c47 = .int .i64 k ∧ SafeI want d ∧ d.steps ≤ 4 + (k : Nat) ∧ FsX W wr g d b D hs ∧ Off wr (foot g b hs) w0.heap.size 5 1 (.slice Aw want.length cw) want.length (u8s want)
set_option maxRecDepth 100000 in
set_option maxHeartbeats 8000000 in
theorem simfsSafe_go (A : Option Addr) (n c : Nat) (bs : List UInt8) (A1 : Option Addr) (c1 : Nat) (more : List HB) (A2 : Option Addr) (c2 : Nat) (keep : List HI) (w : World) (hr : Rd w A n (u8s bs)) (hn : n ≤ 140737488351232) (hm : BsRd w A1 more) (hml : more.length ≤ 140737488351232) (hk : IsRd w A2 keep) :
    Calls Try.prog 4 #[.slice A n c, .slice A1 more.length c1, .slice A2 keep.length c2] w fun e w' => e = .returned (.bool true) ∧ Ext w w' := by
  have hbl : bs.length = n := by have := hr.1; rw [u8s_len] at this; exact this
  have KN := Lib.hid (fsnew_any 67108864)
  have KC := Lib.hid fun W w1 g b D hs (h : FsX W w1 g (newD 67108864) b D hs) => create_any W w1 g b (newD 67108864) D hs nmL h ((inv_new _).num (by simp [newD]))
  have KA := Lib.hid fun W w1 g b D hs B c (h : FsX W w1 g dS0 b D hs) hr => append_any W w1 g b dS0 D hs nmL B 1 c [7] h (invS1.2.num (by simp [dS0])) invS1.2.ok rfl (by omega) hr
  have KP := Lib.hid fun (w1 : World) (hx : Ext w w1) => copy_any A n c bs w1 (hr.ext hx) (by omega)
  have KB := Lib.hid fun W w1 g b D hs B c (h : FsX W w1 g dS1 b D hs) hr => append_any W w1 g b dS1 D hs nmL B n c bs h (invS1.1.num (by simp [dS1])) invS1.1.ok hbl (by omega) hr
  rw [cS0] at KC
  rw [cS1] at KA
  unfold ptrV at *
  unfold nmL at KC KA KB
  have Hr := Lib.hid hr
  have Hbl := Lib.hid hbl
  unfold NewB at KP
  rw [hbl] at KP
  clear hr hbl
  by_cases hfull : (67108863 : Int) < (n : Nat)
  · have hc := cS2n bs (by rw [Hbl.out]; exact hfull)
    unfold nmL at hc
    rw [hc] at KB
    have KF := Lib.hid fun W w1 g b D hs (h : FsX W w1 g dS1 b D hs) => free_any W w1 g b dS1 D hs h invS1.1.ok
    unfold ptrV at KF
    have e1 : dS1.room - dS1.used = 67108863 := rfl
    rw [e1] at KF
    have d1 : decide ((67108863 : Int) < (n : Nat)) = true := by simpa using hfull
    clear hc e1
    go_enter Try.func4, Try.ntmps4
    go_wp2_with (first
      | (go_at_call 15; go_loud ((with_reducible refine (KN.out _).mono ?_); rintro e w1 ⟨g, b, rfl, hX1⟩))
      | (go_at_call 16; go_loud ((with_reducible refine (KC.out _ _ _ _ _ _ hX1).mono ?_); rintro e w2 ⟨rfl, D2, hs2, hX2, -, -⟩))
      | (go_at_call 18; (with_reducible refine (KA.out _ _ g b _ _ _ _ (hX2.ext_ (by repeat (first | with_reducible exact Below.refl _ _ | with_reducible assumption | with_reducible refine ExtD ?_ | with_reducible refine ExtDN ?_ | with_reducible refine ExtA ?_ | (with_reducible refine ExtR ?_ ?_; (first | omega | (dsimp only; omega) | (simp; done) | (simp; omega))) | (with_reducible refine ExtS ?_ ?_; (first | omega | (dsimp only; omega) | (simp; done) | (simp; omega))) | with_reducible refine Ext.tr ?_ (by with_reducible assumption)))) (fun w' ht => rd_turn (own_new8 w2 [7] 1 rfl (by decide) #[.int .u8 7] rfl) ht (fun r hr hc => by simp [Value.ownBlock] at hr; have := hX2.lt r hc; omega))).mono ?_); rintro e w3 ⟨rfl, D3, hs3, hX3, -, -⟩)
      | (go_at_call 19; go_loud ((with_reducible refine (KP.out _ hX3.ext).mono ?_); rintro e w4 ⟨A4, c4, rfl, hx4, hown4⟩; have hX4 := hX3.ext_ hx4))
      | (go_at_call 18; go_loud ((with_reducible refine (KB.out _ _ g b _ _ _ _ hX4 (fun w' ht => rd_turn hown4 ht (own_off hX3 hown4))).mono ?_); rintro e w5 ⟨rfl, D5, hs5, hX5, -, -⟩))
      | (go_at_call 21; go_loud ((with_reducible refine (KF.out _ _ _ _ _ _ hX5).mono ?_); rintro e w6 ⟨rfl, hx6⟩)))
    go_ret
    exact ⟨rfl, hX5.ext.tr hx6⟩
  · have hc := cS2 bs (by rw [Hbl.out]; exact hfull)
    unfold nmL at hc
    rw [hc] at KB
    have KS := Lib.hid fun W w1 g b D hs (h : FsX W w1 g (dS2 bs) b D hs) => sync_any W w1 g b (dS2 bs) D hs nmL h ((invS3 bs (by rw [Hbl.out]; exact hfull)).1.num (by simp [dS2]))
    rw [cS3] at KS
    unfold ptrV at KS
    unfold nmL at KS
    have hst := Lib.hid (safeI_start bs (by rw [Hbl.out]; exact hfull))
    clear hc
    go_enter Try.func4, Try.ntmps4
    go_wp2_with (first
      | (go_at_call 15; go_loud ((with_reducible refine (KN.out _).mono ?_); rintro e w1 ⟨g, b, rfl, hX1⟩))
      | (go_at_call 16; go_loud ((with_reducible refine (KC.out _ _ _ _ _ _ hX1).mono ?_); rintro e w2 ⟨rfl, D2, hs2, hX2, -, -⟩))
      | (go_at_call 18; (with_reducible refine (KA.out _ _ g b _ _ _ _ (hX2.ext_ (by repeat (first | with_reducible exact Below.refl _ _ | with_reducible assumption | with_reducible refine ExtD ?_ | with_reducible refine ExtDN ?_ | with_reducible refine ExtA ?_ | (with_reducible refine ExtR ?_ ?_; (first | omega | (dsimp only; omega) | (simp; done) | (simp; omega))) | (with_reducible refine ExtS ?_ ?_; (first | omega | (dsimp only; omega) | (simp; done) | (simp; omega))) | with_reducible refine Ext.tr ?_ (by with_reducible assumption)))) (fun w' ht => rd_turn (own_new8 w2 [7] 1 rfl (by decide) #[.int .u8 7] rfl) ht (fun r hr hc => by simp [Value.ownBlock] at hr; have := hX2.lt r hc; omega))).mono ?_); rintro e w3 ⟨rfl, D3, hs3, hX3, -, -⟩)
      | (go_at_call 19; go_loud ((with_reducible refine (KP.out _ hX3.ext).mono ?_); rintro e w4 ⟨A4, c4, rfl, hx4, hown4⟩; have hX4 := hX3.ext_ hx4))
      | (go_at_call 18; go_loud ((with_reducible refine (KB.out _ _ g b _ _ _ _ hX4 (fun w' ht => rd_turn hown4 ht (own_off hX3 hown4))).mono ?_); rintro e w5 ⟨rfl, D5, hs5, hX5, -, -⟩))
      | (go_at_call 20; go_loud ((with_reducible refine (KS.out _ _ _ _ _ _ hX5).mono ?_); rintro e w6 ⟨rfl, D6, hs6, hX6, -, -⟩))
      | (at_builtin; (refine wpB_append rfl (.tmp 42) (.tmp 43) rfl w6 rfl (own_new8 w6 [7] 1 rfl (by decide) #[.int .u8 7] rfl) (ExtA (Ext.rfl' _)) rfl (Hr.out.ext (ExtA hX6.ext)) (by have := Hbl.out; simp; omega) ?_); intro Aw nw cw w7 hx7 hnw hownw hkw hgw))
    have hnw2 : nw = (7 :: bs).length := hnw.out
    subst hnw2
    have Hwl := Lib.hid (show (7 :: bs).length = n + 1 by simp [Hbl.out])
    obtain ⟨want, hwant⟩ : ∃ want : List UInt8, want = 7 :: bs := ⟨_, rfl⟩
    have e7 : ([7] ++ bs : List UInt8) = want := hwant.symm
    rw [e7] at hownw hnw
    rw [← hwant] at hst Hwl hownw ⊢
    clear e7 hwant hnw KN KC KA KP KB KS hgw
    have hx67 : Ext w6 w7 := hx7
    have Hm := Lib.hid hm
    have Hkp := Lib.hid hk
    clear hm hk
    have KA := Lib.hid fun (W w1 : World) (d : Dk) (D : DataW Value) (hs : List HF) (B : Option Addr) (m c : Nat) (l : List UInt8) (h : FsX W w1 g d b D hs) (hI : SafeI want d) (hs2 : d.steps ≤ 4611686018427387904) hlm hml hr => append_any W w1 g b d D hs nmL B m c l h (hI.1.num hs2) hI.1.ok hlm hml hr
    have KT := Lib.hid fun (W w1 : World) (d : Dk) (D : DataW Value) (hs : List HF) (AK : Option Addr) (nk ck : Nat) (keep : List Int) (h : FsX W w1 g d b D hs) (hI : SafeI want d) hnk hr hki => restart_any W w1 g b d D hs AK nk ck keep h hI.1.ok hI.1.safe hnk hr hki
    have KR := Lib.hid fun (W w1 : World) (d : Dk) (D : DataW Value) (hs : List HF) (h : FsX W w1 g d b D hs) (hI : SafeI want d) => (show Calls Try.prog 23 #[ptrV g, .string ⟨#[108, 111, 103]⟩, .int .i64 0, .int .i64 (want.length : Nat)] w1 (GaveW W w1 g b hs want d.steps) from by
      obtain ⟨d', he, hI2, hst⟩ := safeI_read hI
      have := read_any W w1 g b d D hs nmL 0 (want.length : Nat) h hI.1.ok (by unfold IsI64; omega) (by unfold IsI64; have := Hwl.out; omega)
      rw [he] at this
      refine this.mono ?_
      rintro e w' ⟨A, c, rfl, h1, h2⟩
      exact ⟨d', A, c, rfl, hI2, hst, h1, h2⟩)
    unfold ptrV GaveW at *
    unfold nmL at KA
    go_loopw [47] (fun c47 wr => SafeR w w6 g b want Aw cw c47 wr) (fun c47 _ => more.length - (intOf c47).toNat)
    case atStart =>
      refine ⟨0, dS3 bs, D6, hs6, rfl, hst.out, by simp [dS3], hX6.ext_ hx7, hownw, own_off hX6 hownw⟩
    case round =>
      obtain ⟨k, d, D, hs, rfl, hI, hst2, hX, hown⟩ := hrel
      have HI := Lib.hid hI
      have HX := Lib.hid hX
      have Hown := Lib.hid hown
      clear hI hX hown
      by_cases hlt : k < more.length
      · obtain ⟨mb, mo, ml, B, mc, rfl, hmk, e0, hrm, hmlen⟩ := bs_at (Hm.out.ext HX.out.ext) hlt
        have KP := Lib.hid fun (w1 : World) (hx : Ext wr w1) => copy_any B ml.length mc ml w1 (hrm.ext hx) (by omega)
        unfold NewB at KP
        obtain ⟨n1, hn1⟩ : ∃ n1, n1 = ml.length := ⟨_, rfl⟩
        rw [← hn1] at KP hmlen e0
        have Hn1 := Lib.hid hn1
        clear hmk hrm hn1
        have hI2 := Lib.hid (safeI_append HI.out ml)
        have hs2 := (appendD_steps d nmL ml).2
        by_cases hkk : k < keep.length
        · obtain ⟨kb, ko, kl, KB, kc, rfl, hkk2, e1, hrk, hklen, hki⟩ := is_at Hkp.out hkk
          have Hrk := Lib.hid hrk
          have Hki := Lib.hid hki
          have Hkk2 := Lib.hid hkk2
          obtain ⟨n2, hn2⟩ : ∃ n2, n2 = kl.length := ⟨_, rfl⟩
          rw [← hn2] at Hrk hklen e1
          have Hn2 := Lib.hid hn2
          clear hrk hki hkk2 hn2
          go_wp2_with (first
            | (go_at_call 19; go_loud ((with_reducible refine (KP.out _ (by repeat (first | with_reducible exact Below.refl _ _ | with_reducible assumption | with_reducible refine ExtD ?_ | with_reducible refine ExtDN ?_ | with_reducible refine ExtA ?_ | (with_reducible refine ExtR ?_ ?_; (first | omega | (dsimp only; omega) | (simp; done) | (simp; omega))) | (with_reducible refine ExtS ?_ ?_; (first | omega | (dsimp only; omega) | (simp; done) | (simp; omega))) | with_reducible refine Ext.tr ?_ (by with_reducible assumption)))).mono ?_); rintro e w8 ⟨A8, c8, rfl, hx8, hown8⟩; have hX8 := HX.out.ext_ hx8))
            | (go_at_call 18; go_loud ((with_reducible refine (KA.out _ _ d _ _ _ _ _ ml hX8 HI.out (by omega) Hn1.out.symm (by omega) (fun w' ht => rd_turn hown8 ht (own_off HX.out hown8))).mono ?_); rintro e w9 ⟨rfl, D9, hs9, hX9, ht9, hf9⟩; change FsX w w9 g (appendD d nmL ml).1 b D9 hs9 at hX9; have e9 : ∀ ob, (w9.alloc ob).cell? ⟨kb, ko + k, none⟩ = some (.slice KB n2 kc) := fun ob => (ExtA hX9.ext).cell e1))
            | (at_builtin; go_loud (refine wpI_append rfl (.tmp 61) (.tmp 65) rfl w9.heap.size rfl (own_emptyI w9 _ (Nat.le_refl _)) (by simp) rfl (Hrk.out.ext (ExtA hX9.ext)) n2 kl (Nat.zero_add _) rfl (by omega) ?_; intro A10 c10 w10 hown10 hg10; have hx10 : Ext w9 w10 := (ExtA (Ext.rfl' w9)).grown hg10 (own_lt (own_emptyI w9 _ (Nat.le_refl _))); have hX10 := hX9.ext_ hx10))
            | (go_at_call 22; go_loud ((with_reducible refine (KT.out _ _ _ _ _ _ _ _ kl hX10 hI2.out (by omega) (fun w' ht => rdI_turn hown10 ht (own_off hX9 hown10)) Hki.out).mono ?_); rintro e w11 ⟨rfl, D11, hs11, hX11, ht11, hf11⟩))
            | (go_at_call 23; go_loud ((with_reducible refine (KR.out _ _ _ _ _ hX11 (safeI_restart hI2.out kl)).mono ?_); rintro e w12 ⟨d12, A12, c12, rfl, hI12, hst12, ⟨D12, hs12, hX12, ht12, hf12⟩, hown12⟩; have HI12 := Lib.hid hI12; clear hI12; have hK12 := Lib.hid ((((((Hown.out.ext hx8).to ht9 hf9).ext hx10).to ht11 hf11).to ht12 hf12))))
            | (go_at_call 24; go_loud ((with_reducible refine (same_any A12 Aw _ c12 _ cw want want w12 (rd_own hown12) (rd_own hK12.out.own) (by simp only [maxLen]; have := Hwl.out; omega)).mono ?_); rintro e w13 ⟨rfl, hx13⟩; have hX13 := hX12.ext_ hx13)))
          go_roundw
          case rel => exact ⟨k + 1, d12, D12, hs12, by go_num, HI12.out, by rw [hst12]; have e1 : (restartD (appendD d nmL ml).1 kl).steps = (appendD d nmL ml).1.steps := rfl; rw [e1]; omega, hX13, hK12.out.ext hx13⟩
          case measure => simp [intOf]; omega
        · have d2 : decide (k < keep.length) = false := by simpa using hkk
          go_wp2_with (first
            | (go_at_call 19; go_loud ((with_reducible refine (KP.out _ (by repeat (first | with_reducible exact Below.refl _ _ | with_reducible assumption | with_reducible refine ExtD ?_ | with_reducible refine ExtDN ?_ | with_reducible refine ExtA ?_ | (with_reducible refine ExtR ?_ ?_; (first | omega | (dsimp only; omega) | (simp; done) | (simp; omega))) | (with_reducible refine ExtS ?_ ?_; (first | omega | (dsimp only; omega) | (simp; done) | (simp; omega))) | with_reducible refine Ext.tr ?_ (by with_reducible assumption)))).mono ?_); rintro e w8 ⟨A8, c8, rfl, hx8, hown8⟩; have hX8 := HX.out.ext_ hx8))
            | (go_at_call 18; go_loud ((with_reducible refine (KA.out _ _ d _ _ _ _ _ ml hX8 HI.out (by omega) Hn1.out.symm (by omega) (fun w' ht => rd_turn hown8 ht (own_off HX.out hown8))).mono ?_); rintro e w9 ⟨rfl, D9, hs9, hX9, ht9, hf9⟩; change FsX w w9 g (appendD d nmL ml).1 b D9 hs9 at hX9))
            | (go_at_call 23; go_loud ((with_reducible refine (KR.out _ _ _ _ _ hX9 hI2.out).mono ?_); rintro e w12 ⟨d12, A12, c12, rfl, hI12, hst12, ⟨D12, hs12, hX12, ht12, hf12⟩, hown12⟩; have HI12 := Lib.hid hI12; clear hI12; have hK12 := Lib.hid (((Hown.out.ext hx8).to ht9 hf9).to ht12 hf12)))
            | (go_at_call 24; go_loud ((with_reducible refine (same_any A12 Aw _ c12 _ cw want want w12 (rd_own hown12) (rd_own hK12.out.own) (by simp only [maxLen]; have := Hwl.out; omega)).mono ?_); rintro e w13 ⟨rfl, hx13⟩; have hX13 := hX12.ext_ hx13)))
          go_roundw
          case rel => exact ⟨k + 1, d12, D12, hs12, by go_num, HI12.out, by rw [hst12]; omega, hX13, hK12.out.ext hx13⟩
          case measure => simp [intOf]; omega
      · have d3 : decide (k < more.length) = false := by simpa using hlt
        go_wp2_with fail
        go_ret
        exact ⟨rfl, HX.out.ext⟩
theorem simfsSafe_walk (g : HB) (A1 : Option Addr) (c1 : Nat) (more : List HB) (A2 : Option Addr) (c2 : Nat) (keep : List HI) (w : World) (h1 : Rd w g.2.1 g.1.length (u8s g.1)) (h2 : g.1.length ≤ 140737488351232) (h3 : BsRd w A1 more) (h4 : more.length * 24 ≤ 140737488351232) (h5 : IsRd w A2 keep) (h6 : keep.length * 24 ≤ 140737488351232) :
    Calls Try.prog 4 #[.slice g.2.1 g.1.length g.2.2, .slice A1 more.length c1, .slice A2 keep.length c2] w fun e w' => e = .returned (.bool true) ∧ Ext w w' :=
  simfsSafe_go _ _ _ g.1 A1 c1 more A2 c2 keep w h1 h2 h3 (by omega) h5
end Go.Proofs.Ytomnllkliifeoaa
