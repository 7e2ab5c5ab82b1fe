/-
  The walk of SimfsSwaps.
-/
import Derived.Test.YtomnllkliifeoaaFsY
namespace Go.Proofs.Ytomnllkliifeoaa
open Go.RowKit
set_option linter.unusedVariables false
set_option linter.unusedSimpArgs false
open Go.Maps
def nmB : ByteArray := ⟨#[98]⟩
theorem rB : rightB nmB = true := by decide
theorem abNe : nmA ≠ nmB ∧ nmB ≠ nmA := by decide
def dW1 : Dk := ⟨[⟨nmA, [], 0⟩], 67108864, 0, 1, 0, 0, false⟩
def dW2 : Dk := ⟨[⟨nmA, [], 0⟩, ⟨nmB, [], 0⟩], 67108864, 0, 2, 0, 0, false⟩
def dW3 (old : List UInt8) : Dk := ⟨[⟨nmA, old, 0⟩, ⟨nmB, [], 0⟩], 67108864, (old.length : Nat), 3, 0, 0, false⟩
def dW4 (old : List UInt8) : Dk := ⟨[⟨nmA, old, old.length⟩, ⟨nmB, [], 0⟩], 67108864, (old.length : Nat), 4, 0, 0, false⟩
def dW5 (old : List UInt8) (n : Int) : Dk := { dW4 old with fuse := max 0 n }
theorem open_in {d : Dk} (hd : d.down = false) {nm : ByteArray} (hr : rightB nm = true) {f : Fil} (hf : f ∈ d.files) (hn : f.name = nm) : openE d nm = 0 := by
  unfold openE
  rw [hd, hr]
  have : (d.files.any fun f => decide (f.name = nm)) = true := List.any_eq_true.2 ⟨f, hf, by simpa using hn⟩
  rw [this]
  simp
theorem cW1 : createD (newD 67108864) nmA = (dW1, 0) := by
  have h1 : openE (newD 67108864) nmA = 51 := by unfold openE; rw [rA]; rfl
  unfold createD
  rw [h1]
  rfl
theorem cW2 : createD dW1 nmB = (dW2, 0) := by
  have h1 : openE dW1 nmB = 51 := by
    unfold openE
    rw [rB]
    simp [dW1, abNe.1]
  unfold createD
  rw [h1]
  rfl
theorem cW3 (old : List UInt8) (h : old.length ≤ 33554432) : appendD dW2 nmA old = (dW3 old, 0) := by
  unfold appendD
  rw [open_in (d := dW2) rfl rA (f := ⟨nmA, [], 0⟩) (by simp [dW2]) rfl, if_neg (by simp), if_neg (by unfold dW2; dsimp only; omega)]
  simp [stepD, dW2, dW3, dataD, abNe.2]
theorem cW4 (old : List UInt8) : syncD (dW3 old) nmA = (dW4 old, 0) := by
  unfold syncD
  rw [open_in (d := dW3 old) rfl rA (f := ⟨nmA, old, 0⟩) (by simp [dW3]) rfl, if_neg (by simp)]
  simp [stepD, dW3, dW4, dataD, abNe.2]
theorem invW (old : List UInt8) (h : old.length ≤ 33554432) : DkInv dW1 ∧ DkInv dW2 ∧ DkInv (dW3 old) ∧ DkInv (dW4 old) := by
  have h1 := inv_create (inv_new 67108864) nmA
  rw [cW1] at h1
  have h2 := inv_create h1 nmB
  rw [cW2] at h2
  have h3 := inv_append h2 nmA old
  rw [cW3 old h] at h3
  have h4 := inv_sync h3 nmA
  rw [cW4] at h4
  exact ⟨h1, h2, h3, h4⟩
theorem find_mem {l : List Fil} (hnd : (l.map (·.name)).Nodup) {f : Fil} (hf : f ∈ l) : l.find? (fun x => decide (x.name = f.name)) = some f := by
  obtain ⟨l1, g, l2, rfl, hn, h1, h2⟩ := split_at hnd (nm := f.name) (List.any_eq_true.2 ⟨f, hf, by simp⟩)
  rw [find_at hn h1 h2]
  rcases List.mem_append.1 hf with hf | hf
  · exact absurd rfl (h1 f hf)
  · rcases List.mem_cons.1 hf with rfl | hf
    · rfl
    · exact absurd rfl (h2 f hf)
/-- What is safe whole is there behind a loss of power. -/
theorem restart_safe {d : Dk} (h : DkInv d) {f : Fil} (hf : f ∈ d.files) (hs : f.safe = f.data.length) (keep : List Int) : f ∈ (restartD d keep).files := by
  have hm := (sortF_perm d.files).mem_iff.2 hf
  obtain ⟨i, hi, he⟩ := List.getElem_of_mem hm
  show f ∈ restL keep (sortF d.files)
  unfold restL
  rw [List.mem_mapIdx]
  refine ⟨i, hi, ?_⟩
  rw [he]
  have h0 : restK keep i f = 0 := by unfold restK; rw [hs]; split <;> simp
  unfold restF
  rw [h0, Nat.add_zero, hs, List.take_length, ← hs]
theorem restart_len (d : Dk) (keep : List Int) : (restartD d keep).files.length = d.files.length := by
  show (restL keep (sortF d.files)).length = _
  unfold restL
  rw [List.length_mapIdx, sortF_len]
theorem file_read {d : Dk} (h : DkInv d) (hd : d.down = false) {f : Fil} (hf : f ∈ d.files) (hr : rightB f.name = true) : sizeD d f.name = (f.data.length, 0) ∧ ∃ d', readD d f.name 0 (f.data.length : Nat) = (d', f.data, 0) ∧ d'.files = d.files ∧ d'.down = false := by
  have ho := open_in hd hr hf rfl
  have hg : getF d f.name = some f := find_mem h.nd hf
  constructor
  · unfold sizeD
    rw [ho, if_neg (by simp), hg]
    rfl
  · refine ⟨{ d with read := wrap64 (d.read + (f.data.length : Nat)) }, ?_, rfl, hd⟩
    unfold readD
    rw [ho, if_neg (by simp), hg]
    refine (if_neg ?_).trans ?_
    · dsimp only [Option.map_some, Option.getD_some]; omega
    · simp
theorem st_free {d : Dk} (h : d.fuse = 0) : stepD d = ({ d with steps := d.steps + 1 }, true) := by unfold stepD; rw [if_neg (by omega)]
theorem st_one {d : Dk} (h : d.fuse = 1) : stepD d = ({ d with fuse := 0, down := true }, false) := by unfold stepD; rw [if_pos (by omega), if_pos h]
theorem st_more {d : Dk} (h : 2 ≤ d.fuse) : stepD d = ({ d with fuse := d.fuse - 1, steps := d.steps + 1 }, true) := by unfold stepD; rw [if_pos (by omega), if_neg (by omega)]
def SwapOut (old young : List UInt8) (d6 : Dk) (e6 : Nat) : Prop := (e6 = 0 ∧ d6.files = [⟨nmA, young, young.length⟩]) ∨ (e6 = 3 ∧ ∃ x s, d6.files = [⟨nmA, old, old.length⟩, ⟨nmB, x, s⟩])
theorem swap_out (old young : List UInt8) (n : Int) (hl : old.length + young.length ≤ 33554432) :
    SwapOut old young (renameD (syncD (appendD (dW5 old n) nmB young).1 nmB).1 nmB nmA).1 (renameD (syncD (appendD (dW5 old n) nmB young).1 nmB).1 nmB nmA).2 := by
  have ho : openE (dW5 old n) nmB = 0 := open_in (d := dW5 old n) rfl rB (f := ⟨nmB, [], 0⟩) (by simp [dW5, dW4]) rfl
  have hA : (appendD (dW5 old n) nmB young).1 = { (stepD (dW5 old n)).1 with files := [⟨nmA, old, old.length⟩, ⟨nmB, young, 0⟩], used := (old.length : Nat) + (young.length : Nat) } := by
    unfold appendD
    rw [ho, if_neg (by simp), if_neg (by unfold dW5 dW4; dsimp only; omega)]
    simp [dW5, dW4, dataD, abNe.1]
  rw [hA]
  clear hA ho
  have nDn : ∀ {d : Dk} (nm : ByteArray), d.down = true → openE d nm = 3 := fun nm h => by unfold openE; rw [h]; rfl
  have off : ∀ {d : Dk} {x : List UInt8} {s : Nat}, d.down = true → d.files = [⟨nmA, old, old.length⟩, ⟨nmB, x, s⟩] → SwapOut old young (renameD d nmB nmA).1 (renameD d nmB nmA).2 := fun {d x s} h hf => by
    have : renameD d nmB nmA = (d, 3) := by
      unfold renameD
      rw [nDn nmB h, if_neg (by rintro ⟨h1 | h1, _⟩ <;> omega), if_pos (by decide)]
    rw [this]
    exact .inr ⟨rfl, x, s, hf⟩
  have offS : ∀ {d : Dk} {x : List UInt8} {s : Nat}, d.down = true → d.files = [⟨nmA, old, old.length⟩, ⟨nmB, x, s⟩] → SwapOut old young (renameD (syncD d nmB).1 nmB nmA).1 (renameD (syncD d nmB).1 nmB nmA).2 := fun {d x s} h hf => by
    have : (syncD d nmB).1 = d := by
      unfold syncD
      rw [nDn nmB h, if_pos (by decide)]
    rw [this]
    exact off h hf
  have up : ∀ {d : Dk} {x : List UInt8} {s : Nat}, d.down = false → d.files = [⟨nmA, old, old.length⟩, ⟨nmB, x, s⟩] → openE d nmB = 0 := fun {d x s} h hf => open_in h rB (f := ⟨nmB, x, s⟩) (by rw [hf]; simp) rfl
  have syn : ∀ {d : Dk} {x : List UInt8} {s : Nat}, d.down = false → d.files = [⟨nmA, old, old.length⟩, ⟨nmB, x, s⟩] → (stepD d).2 = true → (syncD d nmB).1 = { (stepD d).1 with files := [⟨nmA, old, old.length⟩, ⟨nmB, x, x.length⟩] } := fun {d x s} h hf hs => by
    unfold syncD
    rw [up h hf, if_neg (by decide), if_pos hs]
    simp [dataD, hf, abNe.1]
  have synF : ∀ {d : Dk} {x : List UInt8} {s : Nat}, d.down = false → d.files = [⟨nmA, old, old.length⟩, ⟨nmB, x, s⟩] → (stepD d).2 = false → (syncD d nmB).1 = (stepD d).1 := fun {d x s} h hf hs => by
    unfold syncD
    rw [up h hf, if_neg (by decide), if_neg (by simp [hs])]
  have ren : ∀ {d : Dk}, d.down = false → d.files = [⟨nmA, old, old.length⟩, ⟨nmB, young, young.length⟩] → (stepD d).2 = true → SwapOut old young (renameD d nmB nmA).1 (renameD d nmB nmA).2 := fun {d} h hf hs => by
    have : renameD d nmB nmA = ({ (stepD d).1 with files := renF d nmB nmA, used := d.used - (lenF d nmA : Nat) }, 0) := by
      unfold renameD
      rw [up h hf, if_neg (by rw [rA]; simp), if_neg (by decide), if_neg (by simp [hs]), if_neg abNe.2]
    rw [this]
    refine .inl ⟨rfl, ?_⟩
    unfold renF getF
    rw [hf]
    simp [abNe.1]
  have renF' : ∀ {d : Dk}, d.down = false → d.files = [⟨nmA, old, old.length⟩, ⟨nmB, young, young.length⟩] → (stepD d).2 = false → SwapOut old young (renameD d nmB nmA).1 (renameD d nmB nmA).2 := fun {d} h hf hs => by
    have : renameD d nmB nmA = ((stepD d).1, 3) := by
      unfold renameD
      rw [up h hf, if_neg (by rw [rA]; simp), if_neg (by decide), if_pos hs]
    rw [this]
    exact .inr ⟨rfl, _, _, by rw [stepD_files]; exact hf⟩
  obtain ⟨F, hF⟩ : ∃ F, F = max 0 n := ⟨_, rfl⟩
  have hd5 : dW5 old n = { dW4 old with fuse := F } := by unfold dW5; rw [hF]
  rw [hd5]
  have hF0 : 0 ≤ F := by omega
  clear hF hd5
  by_cases h1 : F = 1
  · rw [st_one (d := { dW4 old with fuse := F }) h1]
    exact offS (x := young) (s := 0) rfl rfl
  · by_cases h0 : F = 0
    · rw [st_free (d := { dW4 old with fuse := F }) h0]
      rw [syn (x := young) (s := 0) rfl rfl (by rw [st_free]; exact h0)]
      rw [st_free (by exact h0)]
      exact ren rfl rfl (by rw [st_free]; exact h0)
    · rw [st_more (d := { dW4 old with fuse := F }) (by dsimp only; omega)]
      by_cases h2 : F = 2
      · have h21 : F - 1 = 1 := by omega
        rw [synF (x := young) (s := 0) rfl rfl (by rw [st_one]; exact h21)]
        rw [st_one (by exact h21)]
        exact off (x := young) (s := 0) rfl rfl
      · have h31 : 2 ≤ F - 1 := by omega
        rw [syn (x := young) (s := 0) rfl rfl (by rw [st_more]; exact h31)]
        rw [st_more (by exact h31)]
        by_cases h3 : F = 3
        · have h32 : F - 1 - 1 = 1 := by omega
          exact renF' rfl rfl (by rw [st_one]; exact h32)
        · have h33 : 2 ≤ F - 1 - 1 := by omega
          exact ren rfl rfl (by rw [st_more]; exact h33)
theorem swap_end {old young : List UInt8} {d8 : Dk} {e8 : Nat} (h : SwapOut old young d8 e8) (hI : DkInv d8) (keep : List Int) :
    ∃ l N, ((e8 = 0 ∧ l = young ∧ N = 1) ∨ (e8 = 3 ∧ l = old ∧ N = 2)) ∧ sizeD (restartD d8 keep) nmA = (l.length, 0) ∧ ∃ d', readD (restartD d8 keep) nmA 0 (l.length : Nat) = (d', l, 0) ∧ d'.files.length = N ∧ d'.down = false := by
  have hR := inv_restart hI keep
  rcases h with ⟨he, hf⟩ | ⟨he, x, s, hf⟩
  · have hm := restart_safe hI (f := ⟨nmA, young, young.length⟩) (by rw [hf]; simp) rfl keep
    obtain ⟨h1, d', h2, h3, h4⟩ := file_read hR rfl hm rA
    exact ⟨young, 1, .inl ⟨he, rfl, rfl⟩, h1, d', h2, by rw [h3, restart_len, hf]; rfl, h4⟩
  · have hm := restart_safe hI (f := ⟨nmA, old, old.length⟩) (by rw [hf]; simp) rfl keep
    obtain ⟨h1, d', h2, h3, h4⟩ := file_read hR rfl hm rA
    exact ⟨old, 2, .inr ⟨he, rfl, rfl⟩, h1, d', h2, by rw [h3, restart_len, hf]; rfl, h4⟩
set_option maxRecDepth 100000 in
set_option maxHeartbeats 8000000 in
theorem simfsSwaps_go (A : Option Addr) (n0 c : Nat) (old : List UInt8) (A1 : Option Addr) (n1 c1 : Nat) (young : List UInt8) (n : Int) (AK : Option Addr) (nk ck : Nat) (keep : List Int) (w : World) (hr : Rd w A n0 (u8s old)) (hn0 : n0 ≤ 140737488351232) (hr1 : Rd w A1 n1 (u8s young)) (hn1 : n1 ≤ 140737488351232)
    (hrk : Rd w AK nk (ints keep)) (hnk : nk * 8 ≤ 140737488351232) (hki : ∀ x ∈ keep, IsI64 x) (hn : IsI64 n) :
    Calls Try.prog 5 #[.slice A n0 c, .slice A1 n1 c1, .int .i64 n, .slice AK nk ck] w fun e w' => e = .returned (.bool true) ∧ Ext w w' := by
  unfold IsI64 at hn
  have hol : old.length = n0 := by have := hr.1; rw [u8s_len] at this; exact this
  have hyl : young.length = n1 := by have := hr1.1; rw [u8s_len] at this; exact this
  have hkl : keep.length = nk := by have := hrk.1; simpa [ints] using this
  have KN := Lib.hid (newK 67108864)
  have KC := Lib.hid fun W w1 g b D hs (h : FsX W w1 g (newD 67108864) b D hs) => createK h (inv_new _) (by simp [newD]) nmA
  have KD := Lib.hid fun W w1 g b D hs (h : FsX W w1 g dW1 b D hs) => createK h (invW [] (by simp)).1 (by simp [dW1]) nmB
  rw [cW1] at KC
  rw [cW2] at KD
  unfold nmA at KC
  unfold nmB at KD
  have Hr := Lib.hid hr
  have Hr1 := Lib.hid hr1
  have Hrk := Lib.hid hrk
  by_cases hbig : (33554432 : Int) < (n0 : Int) + (n1 : Int)
  · have KL := Lib.hid fun W w1 g b D hs (h : FsX W w1 g dW2 b D hs) => (show Calls Try.prog 25 #[.pointer (some ⟨g, 0, none⟩)] w1 (fun e w' => ∃ A c, e = .returned (.slice A 2 c) ∧ Ext w1 w') from (listUp h rfl).mono fun e w' ⟨A, c, he, hx, _⟩ => ⟨A, c, he, hx⟩)
    have d1 : decide ((33554432 : Int) < (n0 : Int) + (n1 : Int)) = true := by simpa using hbig
    clear hr hr1 hrk hol hyl hkl
    go_enter Try.func5, Try.ntmps5
    go_wp2_with (first
      | (go_at_call 15; go_loud ((with_reducible refine (KN.out _).mono ?_); rintro e w1 ⟨g, b, rfl, hX1⟩))
      | (go_at_call 16; (with_reducible refine (KD.out _ _ _ _ _ _ hX2).mono ?_); rintro e w3 ⟨rfl, D3, hs3, hX3, -, -⟩)
      | (go_at_call 16; (with_reducible refine (KC.out _ _ _ _ _ _ hX1).mono ?_); rintro e w2 ⟨rfl, D2, hs2, hX2, -, -⟩)
      | (go_at_call 25; go_loud ((with_reducible refine (KL.out _ _ _ _ _ _ hX3).mono ?_); rintro e w4 ⟨A4, c4, rfl, hx4⟩)))
    go_ret
    exact ⟨rfl, hX3.ext.tr hx4⟩
  · have hsm : old.length + young.length ≤ 33554432 := by omega
    have hso : old.length ≤ 33554432 := by omega
    obtain ⟨i1, i2, i3, i4⟩ := invW old hso
    have i5 : DkInv (dW5 old n) := inv_fuse i4 n hn.2
    have i6 := inv_append i5 nmB young
    have i7 := inv_sync i6 nmB
    have i8 := inv_rename i7 nmB nmA
    have s6 := (appD_steps (dW5 old n) nmB young).2
    have s7 := (syncD_steps (appendD (dW5 old n) nmB young).1 nmB).2
    have s4 : (dW5 old n).steps = 4 := rfl
    have hout := swap_out old young n hsm
    have KP := Lib.hid fun (w1 : World) (hx : Ext w w1) => copy_any A n0 c old w1 (hr.ext hx) (by omega)
    have KQ := Lib.hid fun (w1 : World) (hx : Ext w w1) => copy_any A1 n1 c1 young w1 (hr1.ext hx) (by omega)
    have KA := Lib.hid fun W w1 g b D hs B c (h : FsX W w1 g dW2 b D hs) hr => appendK h i2 (by simp [dW2]) nmA B n0 c old hol (by omega) hr
    rw [cW3 old hso] at KA
    have KS := Lib.hid fun W w1 g b D hs (h : FsX W w1 g (dW3 old) b D hs) => syncK h i3 (by simp [dW3]) nmA
    rw [cW4] at KS
    have KF := Lib.hid fun W w1 g b D hs (h : FsX W w1 g (dW4 old) b D hs) => (show Calls Try.prog 26 #[.pointer (some ⟨g, 0, none⟩), .int .i64 n] w1 (fun e w' => e = .returned (.tuple #[]) ∧ FsTo W w1 w' g b hs (dW5 old n)) from fuseK h n)
    have KB := Lib.hid fun W w1 g b D hs B c (h : FsX W w1 g (dW5 old n) b D hs) hr => appendK h i5 (by omega) nmB B n1 c young hyl (by omega) hr
    obtain ⟨d6, h6⟩ : ∃ d6, d6 = (appendD (dW5 old n) nmB young).1 := ⟨_, rfl⟩
    obtain ⟨e6, h6e⟩ : ∃ e6, e6 = (appendD (dW5 old n) nmB young).2 := ⟨_, rfl⟩
    rw [← h6] at i6 i7 i8 s6 s7 hout KB
    rw [← h6e] at KB
    have KT := Lib.hid fun W w1 g b D hs (h : FsX W w1 g d6 b D hs) => syncK h i6 (by omega) nmB
    obtain ⟨d7, h7⟩ : ∃ d7, d7 = (syncD d6 nmB).1 := ⟨_, rfl⟩
    obtain ⟨e7, h7e⟩ : ∃ e7, e7 = (syncD d6 nmB).2 := ⟨_, rfl⟩
    rw [← h7] at i7 i8 s7 hout KT
    rw [← h7e] at KT
    have KR := Lib.hid fun W w1 g b D hs (h : FsX W w1 g d7 b D hs) => renameK h i7 (by omega) nmB nmA
    obtain ⟨d8, h8⟩ : ∃ d8, d8 = (renameD d7 nmB nmA).1 := ⟨_, rfl⟩
    obtain ⟨e8, h8e⟩ : ∃ e8, e8 = (renameD d7 nmB nmA).2 := ⟨_, rfl⟩
    rw [← h8, ← h8e] at hout KR
    rw [← h8] at i8
    have KU := Lib.hid fun W w1 g b D hs AK ck (h : FsX W w1 g d8 b D hs) hr => restartK h i8 AK nk ck keep (by omega) hr hki
    obtain ⟨l, N, hcase, hsz, d', hrd, hN, hdn⟩ := swap_end hout i8 keep
    have i9 := inv_restart i8 keep
    have i10 := inv_read i9 nmA 0 (l.length : Nat)
    rw [hrd] at i10
    have hll : l.length ≤ 33554432 := by rcases hcase with ⟨_, h, _⟩ | ⟨_, h, _⟩ <;> (rw [h]; omega)
    obtain ⟨d9, h9⟩ : ∃ d9, d9 = restartD d8 keep := ⟨_, rfl⟩
    rw [← h9] at KU i9 hsz hrd
    have KZ := Lib.hid fun W w1 g b D hs (h : FsX W w1 g d9 b D hs) => sizeK h nmA
    have KE := Lib.hid fun W w1 g b D hs (h : FsX W w1 g d9 b D hs) => readK h i9 nmA 0 (l.length : Nat) (by unfold IsI64; omega) (by unfold IsI64; omega)
    rw [hsz] at KZ
    rw [hrd] at KE
    have KL := Lib.hid fun W w1 g b D hs (h : FsX W w1 g d' b D hs) => (show Calls Try.prog 25 #[.pointer (some ⟨g, 0, none⟩)] w1 (fun e w' => ∃ A c, e = .returned (.slice A N c) ∧ Ext w1 w') from (listUp h hdn).mono fun e w' ⟨A, c, he, hx, _⟩ => ⟨A, c, by rw [← hN]; exact he, hx⟩)
    obtain ⟨ln, hln⟩ : ∃ ln, ln = l.length := ⟨_, rfl⟩
    unfold GaveB at KE
    unfold NewB at KP KQ
    rw [hol] at KP
    rw [hyl] at KQ
    rw [← hln] at KZ KE hll
    unfold nmA at KA KS KR KZ KE
    unfold nmB at KB KT KR
    have d1 : decide ((33554432 : Int) < (n0 : Int) + (n1 : Int)) = false := by simpa using hbig
    have Hln := Lib.hid hln
    have Hy := Lib.hid hyl
    have Ho := Lib.hid hol
    clear h6 h6e h7 h7e h8 h8e h9 hout hsz hrd hN hdn i1 i2 i3 i4 i5 i6 i7 i8 i9 i10 s4 s6 s7 hln hr hr1 hrk hol hyl hkl hsm hso
    rcases hcase with ⟨rfl, hly, rfl⟩ | ⟨rfl, hly, rfl⟩
    all_goals
      first
        | (have HY := Lib.hid fun (w' : World) (hx : Ext w w') => (show Rd w' A1 n1 (u8s l) from by rw [show l = young from hly]; exact Hr1.out.ext hx))
        | (have HY := Lib.hid fun (w' : World) (hx : Ext w w') => (show Rd w' A n0 (u8s l) from by rw [show l = old from hly]; exact Hr.out.ext hx))
      clear hly
      go_enter Try.func5, Try.ntmps5
      go_wp2_with (first
        | (go_at_call 15; go_loud ((with_reducible refine (KN.out _).mono ?_); rintro e w1 ⟨g, b, rfl, hX1⟩))
        | (go_at_call 16; (with_reducible refine (KD.out _ _ _ _ _ _ hX2).mono ?_); rintro e w3 ⟨rfl, D3, hs3, hX3, -, -⟩)
        | (go_at_call 16; (with_reducible refine (KC.out _ _ _ _ _ _ hX1).mono ?_); rintro e w2 ⟨rfl, D2, hs2, hX2, -, -⟩)
        | (go_at_call 19; (with_reducible refine (KQ.out _ hX7.ext).mono ?_); rintro e w8 ⟨A8, c8, rfl, hx8, hown8⟩; have hX8 := hX7.ext_ hx8)
        | (go_at_call 19; (with_reducible refine (KP.out _ hX3.ext).mono ?_); rintro e w4 ⟨A4, c4, rfl, hx4, hown4⟩; have hX4 := hX3.ext_ hx4)
        | (go_at_call 18; ((with_reducible refine (KB.out _ _ _ _ _ _ _ _ hX8 (fun w' ht => rd_turn hown8 ht (own_off hX7 hown8))).mono ?_); rintro e w9 ⟨rfl, D9, hs9, hX9, -, -⟩))
        | (go_at_call 18; ((with_reducible refine (KA.out _ _ _ _ _ _ _ _ hX4 (fun w' ht => rd_turn hown4 ht (own_off hX3 hown4))).mono ?_); rintro e w5 ⟨rfl, D5, hs5, hX5, -, -⟩))
        | (go_at_call 20; (with_reducible refine (KT.out _ _ _ _ _ _ hX9).mono ?_); rintro e w10 ⟨rfl, D10, hs10, hX10, -, -⟩)
        | (go_at_call 20; (with_reducible refine (KS.out _ _ _ _ _ _ hX5).mono ?_); rintro e w6 ⟨rfl, D6, hs6, hX6, -, -⟩)
        | (go_at_call 26; go_loud ((with_reducible refine (KF.out _ _ _ _ _ _ hX6).mono ?_); rintro e w7 ⟨rfl, D7, hs7, hX7, -, -⟩))
        | (go_at_call 27; go_loud ((with_reducible refine (KR.out _ _ _ _ _ _ hX10).mono ?_); rintro e w11 ⟨rfl, D11, hs11, hX11, -, -⟩))
        | (at_builtin; go_loud (refine wpI_append rfl (.tmp 62) (.tmp 63) rfl w11.heap.size rfl (own_emptyI w11 _ (Nat.le_refl _)) (by simp) rfl (Hrk.out.ext (ExtA hX11.ext)) nk keep (Nat.zero_add _) rfl (by omega) ?_; intro A12 c12 w12 hown12 hg12; have hx12 : Ext w11 w12 := (ExtA (Ext.rfl' w11)).grown hg12 (own_lt (own_emptyI w11 _ (Nat.le_refl _))); have hX12 := hX11.ext_ hx12))
        | (go_at_call 22; go_loud ((with_reducible refine (KU.out _ _ _ _ _ _ _ _ hX12 (fun w' ht => rdI_turn hown12 ht (own_off hX11 hown12))).mono ?_); rintro e w13 ⟨rfl, D13, hs13, hX13, -, -⟩))
        | (go_at_call 28; go_loud ((with_reducible refine (KZ.out _ _ _ _ _ _ hX13).mono ?_); rintro e w14 ⟨rfl, hx14⟩; have hX14 := hX13.ext_ hx14))
        | (go_at_call 23; go_loud ((with_reducible refine (KE.out _ _ _ _ _ _ hX14).mono ?_); rintro e w15 ⟨A15, c15, rfl, ⟨D15, hs15, hX15, -, -⟩, hown15⟩))
        | (go_at_call 24; go_loud ((with_reducible refine (same_any A15 _ ln c15 _ _ l l _ (rd_own hown15) (HY.out _ hX15.ext) (by simp only [maxLen]; omega)).mono ?_); rintro e w16 ⟨rfl, hx16⟩; have hX16 := hX15.ext_ hx16))
        | (go_at_call 25; go_loud ((with_reducible refine (KL.out _ _ _ _ _ _ hX16).mono ?_); rintro e w17 ⟨A17, c17, rfl, hx17⟩)))
      go_ret
      exact ⟨rfl, hX16.ext.tr hx17⟩
theorem simfsSwaps_walk (g : HB) (g1 : HB) (n : Int) (gk : HI) (w : World) (h1 : Rd w g.2.1 g.1.length (u8s g.1)) (h2 : g.1.length ≤ 140737488351232) (h3 : Rd w g1.2.1 g1.1.length (u8s g1.1)) (h4 : g1.1.length ≤ 140737488351232) (hn : IsI64 n)
    (h5 : Rd w gk.2.1 gk.1.length (ints gk.1)) (h6 : gk.1.length * 8 ≤ 140737488351232) (h7 : ∀ x ∈ gk.1, IsI64 x) :
    Calls Try.prog 5 #[.slice g.2.1 g.1.length g.2.2, .slice g1.2.1 g1.1.length g1.2.2, .int .i64 n, .slice gk.2.1 gk.1.length gk.2.2] w fun e w' => e = .returned (.bool true) ∧ Ext w w' :=
  simfsSwaps_go _ _ _ g.1 _ _ _ g1.1 n _ _ _ gk.1 w h1 h2 h3 h4 h5 h6 h7 hn
end Go.Proofs.Ytomnllkliifeoaa
