/-
  The disk's calls, as the laws' walks take them: one contract a call, of any disk that keeps the invariants.
-/
/-
  The walk of SimfsSwaps.
-/
import Derived.Test.YtdoaniimfhpjhaaDoorFsU
namespace Go.Proofs.YtdoaniimfhpjhaaDoor
open Go.RowKit
set_option linter.unusedVariables false
set_option linter.unusedSimpArgs false
open Go.Maps
abbrev gP (g : Nat) : Value := .pointer (some ⟨g, 0, none⟩)
section
variable {W w : World} {g b : Nat} {d : Dk} {D : DataW Value} {hs : List HF}
theorem createK (h : FsX W w g d b D hs) (hI : DkInv d) (hst : d.steps ≤ 4611686018427387904) (nm : ByteArray) : Calls Tryd.prog 18 #[.pointer (some ⟨g, 0, none⟩), .string nm] w fun e w' => e = .returned (.int .i64 ((createD d nm).2 : Nat)) ∧ FsTo W w w' g b hs (createD d nm).1 := create_any W w g b d D hs nm h (hI.num hst)
theorem appendK (h : FsX W w g d b D hs) (hI : DkInv d) (hst : d.steps ≤ 4611686018427387904) (nm : ByteArray) (B : Option Addr) (m c : Nat) (l : List UInt8) (hlm : l.length = m) (hm : m ≤ 140737488355328) (hr : ∀ w', Turn (foot g b hs) w w' → Rd w' B m (u8s l)) :
    Calls Tryd.prog 20 #[.pointer (some ⟨g, 0, none⟩), .string nm, .slice B m c] w fun e w' => e = .returned (.int .i64 ((appendD d nm l).2 : Nat)) ∧ FsTo W w w' g b hs (appendD d nm l).1 := append_any W w g b d D hs nm B m c l h (hI.num hst) hI.ok hlm hm hr
theorem syncK (h : FsX W w g d b D hs) (hI : DkInv d) (hst : d.steps ≤ 4611686018427387904) (nm : ByteArray) : Calls Tryd.prog 22 #[.pointer (some ⟨g, 0, none⟩), .string nm] w fun e w' => e = .returned (.int .i64 ((syncD d nm).2 : Nat)) ∧ FsTo W w w' g b hs (syncD d nm).1 := sync_any W w g b d D hs nm h (hI.num hst)
theorem renameK (h : FsX W w g d b D hs) (hI : DkInv d) (hst : d.steps ≤ 4611686018427387904) (nm tn : ByteArray) : Calls Tryd.prog 24 #[.pointer (some ⟨g, 0, none⟩), .string nm, .string tn] w fun e w' => e = .returned (.int .i64 ((renameD d nm tn).2 : Nat)) ∧ FsTo W w w' g b hs (renameD d nm tn).1 := rename_any W w g b d D hs nm tn h (hI.num hst) hI.ok
theorem readK (h : FsX W w g d b D hs) (hI : DkInv d) (nm : ByteArray) (i n : Int) (hi : IsI64 i) (hn : IsI64 n) : Calls Tryd.prog 29 #[.pointer (some ⟨g, 0, none⟩), .string nm, .int .i64 i, .int .i64 n] w (GaveB W w g b hs (readD d nm i n).1 (readD d nm i n).2.1 (readD d nm i n).2.2) := read_any W w g b d D hs nm i n h hI.ok hi hn
theorem sizeK (h : FsX W w g d b D hs) (nm : ByteArray) : Calls Tryd.prog 28 #[.pointer (some ⟨g, 0, none⟩), .string nm] w fun e w' => e = .returned (.tuple #[.int .i64 ((sizeD d nm).1 : Nat), .int .i64 ((sizeD d nm).2 : Nat)]) ∧ Ext w w' := size_any W w g b d D hs nm h
theorem fuseK (h : FsX W w g d b D hs) (n : Int) : Calls Tryd.prog 10 #[.pointer (some ⟨g, 0, none⟩), .int .i64 n] w fun e w' => e = .returned (.tuple #[]) ∧ FsTo W w w' g b hs { d with fuse := max 0 n } := fuse_any W w g b d D hs n h
theorem restartK (h : FsX W w g d b D hs) (hI : DkInv d) (AK : Option Addr) (nk ck : Nat) (keep : List Int) (hnk : nk ≤ 140737488355328) (hr : ∀ w', Turn (foot g b hs) w w' → Rd w' AK nk (ints keep)) (hki : ∀ x ∈ keep, IsI64 x) :
    Calls Tryd.prog 11 #[.pointer (some ⟨g, 0, none⟩), .slice AK nk ck] w fun e w' => e = .returned (.tuple #[]) ∧ FsTo W w w' g b hs (restartD d keep) := restart_any W w g b d D hs AK nk ck keep h hI.ok hI.safe hnk hr hki
theorem newK (room : Int) (w : World) : Calls Tryd.prog 5 #[.int .i64 room] w fun e w' => ∃ g b, e = .returned (.pointer (some ⟨g, 0, none⟩)) ∧ FsX w w' g (newD room) b (.map []) [] := fsnew_any room w
end
theorem createD_steps (d : Dk) (nm : ByteArray) : d.steps ≤ (createD d nm).1.steps ∧ (createD d nm).1.steps ≤ d.steps + 1 := by
  have := stepD_steps d
  unfold createD
  repeat (first | (dsimp only; omega) | split)
theorem appD_steps (d : Dk) (nm : ByteArray) (l : List UInt8) : d.steps ≤ (appendD d nm l).1.steps ∧ (appendD d nm l).1.steps ≤ d.steps + 1 := by
  have := stepD_steps d
  unfold appendD
  repeat (first | (dsimp only; omega) | split)
theorem syncD_steps (d : Dk) (nm : ByteArray) : d.steps ≤ (syncD d nm).1.steps ∧ (syncD d nm).1.steps ≤ d.steps + 1 := by
  have := stepD_steps d
  unfold syncD
  repeat (first | (dsimp only; omega) | split)
theorem renameD_steps (d : Dk) (nm tn : ByteArray) : d.steps ≤ (renameD d nm tn).1.steps ∧ (renameD d nm tn).1.steps ≤ d.steps + 1 := by
  have := stepD_steps d
  unfold renameD
  repeat (first | (dsimp only; omega) | split)
theorem removeD_steps (d : Dk) (nm : ByteArray) : d.steps ≤ (removeD d nm).1.steps ∧ (removeD d nm).1.steps ≤ d.steps + 1 := by
  have := stepD_steps d
  unfold removeD
  repeat (first | (dsimp only; omega) | split)
theorem cutD_steps (d : Dk) (nm : ByteArray) (n : Int) : d.steps ≤ (cutD d nm n).1.steps ∧ (cutD d nm n).1.steps ≤ d.steps + 1 := by
  have := stepD_steps d
  unfold cutD
  repeat (first | (dsimp only; omega) | split)
theorem readD_steps (d : Dk) (nm : ByteArray) (i n : Int) : (readD d nm i n).1.steps = d.steps := by
  unfold readD
  split
  · rfl
  · dsimp only
    split <;> rfl
end Go.Proofs.YtdoaniimfhpjhaaDoor

namespace Go.Proofs.YtdoaniimfhpjhaaDoor
open Go.RowKit
set_option linter.unusedVariables false
set_option linter.unusedSimpArgs false
open Go.Maps
def nmB : ByteArray := ⟨#[98]⟩
theorem rB : rightB nmB = true := by decide
theorem abNe : nmA ≠ nmB ∧ nmB ≠ nmA := by decide
def dW1 : Dk := ⟨[⟨nmA, [], 0⟩], 67108864, 0, 1, 0, 0, false⟩
def dW2 : Dk := ⟨[⟨nmA, [], 0⟩, ⟨nmB, [], 0⟩], 67108864, 0, 2, 0, 0, false⟩
def dW3 (old : List UInt8) : Dk := ⟨[⟨nmA, old, 0⟩, ⟨nmB, [], 0⟩], 67108864, (old.length : Nat), 3, 0, 0, false⟩
def dW4 (old : List UInt8) : Dk := ⟨[⟨nmA, old, old.length⟩, ⟨nmB, [], 0⟩], 67108864, (old.length : Nat), 4, 0, 0, false⟩
def dW5 (old : List UInt8) (n : Int) : Dk := { dW4 old with fuse := max 0 n }
theorem open_in {d : Dk} (hd : d.down = false) {nm : ByteArray} (hr : rightB nm = true) {f : Fil} (hf : f ∈ d.files) (hn : f.name = nm) : openE d nm = 0 := by
  unfold openE
  rw [hd, hr]
  have : (d.files.any fun f => decide (f.name = nm)) = true := List.any_eq_true.2 ⟨f, hf, by simpa using hn⟩
  rw [this]
  simp
theorem cW1 : createD (newD 67108864) nmA = (dW1, 0) := by
  have h1 : openE (newD 67108864) nmA = 51 := by unfold openE; rw [rA]; rfl
  unfold createD
  rw [h1]
  rfl
theorem cW2 : createD dW1 nmB = (dW2, 0) := by
  have h1 : openE dW1 nmB = 51 := by
    unfold openE
    rw [rB]
    simp [dW1, abNe.1]
  unfold createD
  rw [h1]
  rfl
theorem cW3 (old : List UInt8) (h : old.length ≤ 33554432) : appendD dW2 nmA old = (dW3 old, 0) := by
  unfold appendD
  rw [open_in (d := dW2) rfl rA (f := ⟨nmA, [], 0⟩) (by simp [dW2]) rfl, if_neg (by simp), if_neg (by unfold dW2; dsimp only; omega)]
  simp [stepD, dW2, dW3, dataD, abNe.2]
theorem cW4 (old : List UInt8) : syncD (dW3 old) nmA = (dW4 old, 0) := by
  unfold syncD
  rw [open_in (d := dW3 old) rfl rA (f := ⟨nmA, old, 0⟩) (by simp [dW3]) rfl, if_neg (by simp)]
  simp [stepD, dW3, dW4, dataD, abNe.2]
theorem invW (old : List UInt8) (h : old.length ≤ 33554432) : DkInv dW1 ∧ DkInv dW2 ∧ DkInv (dW3 old) ∧ DkInv (dW4 old) := by
  have h1 := inv_create (inv_new 67108864) nmA
  rw [cW1] at h1
  have h2 := inv_create h1 nmB
  rw [cW2] at h2
  have h3 := inv_append h2 nmA old
  rw [cW3 old h] at h3
  have h4 := inv_sync h3 nmA
  rw [cW4] at h4
  exact ⟨h1, h2, h3, h4⟩
theorem find_mem {l : List Fil} (hnd : (l.map (·.name)).Nodup) {f : Fil} (hf : f ∈ l) : l.find? (fun x => decide (x.name = f.name)) = some f := by
  obtain ⟨l1, g, l2, rfl, hn, h1, h2⟩ := split_at hnd (nm := f.name) (List.any_eq_true.2 ⟨f, hf, by simp⟩)
  rw [find_at hn h1 h2]
  rcases List.mem_append.1 hf with hf | hf
  · exact absurd rfl (h1 f hf)
  · rcases List.mem_cons.1 hf with rfl | hf
    · rfl
    · exact absurd rfl (h2 f hf)
/-- What is safe whole is there behind a loss of power. -/
theorem restart_safe {d : Dk} (h : DkInv d) {f : Fil} (hf : f ∈ d.files) (hs : f.safe = f.data.length) (keep : List Int) : f ∈ (restartD d keep).files := by
  have hm := (sortF_perm d.files).mem_iff.2 hf
  obtain ⟨i, hi, he⟩ := List.getElem_of_mem hm
  show f ∈ restL keep (sortF d.files)
  unfold restL
  rw [List.mem_mapIdx]
  refine ⟨i, hi, ?_⟩
  rw [he]
  have h0 : restK keep i f = 0 := by unfold restK; rw [hs]; split <;> simp
  unfold restF
  rw [h0, Nat.add_zero, hs, List.take_length, ← hs]
theorem restart_len (d : Dk) (keep : List Int) : (restartD d keep).files.length = d.files.length := by
  show (restL keep (sortF d.files)).length = _
  unfold restL
  rw [List.length_mapIdx, sortF_len]
theorem file_read {d : Dk} (h : DkInv d) (hd : d.down = false) {f : Fil} (hf : f ∈ d.files) (hr : rightB f.name = true) : sizeD d f.name = (f.data.length, 0) ∧ ∃ d', readD d f.name 0 (f.data.length : Nat) = (d', f.data, 0) ∧ d'.files = d.files ∧ d'.down = false := by
  have ho := open_in hd hr hf rfl
  have hg : getF d f.name = some f := find_mem h.nd hf
  constructor
  · unfold sizeD
    rw [ho, if_neg (by simp), hg]
    rfl
  · refine ⟨{ d with read := wrap64 (d.read + (f.data.length : Nat)) }, ?_, rfl, hd⟩
    unfold readD
    rw [ho, if_neg (by simp), hg]
    refine (if_neg ?_).trans ?_
    · dsimp only [Option.map_some, Option.getD_some]; omega
    · simp
theorem st_free {d : Dk} (h : d.fuse = 0) : stepD d = ({ d with steps := d.steps + 1 }, true) := by unfold stepD; rw [if_neg (by omega)]
theorem st_one {d : Dk} (h : d.fuse = 1) : stepD d = ({ d with fuse := 0, down := true }, false) := by unfold stepD; rw [if_pos (by omega), if_pos h]
theorem st_more {d : Dk} (h : 2 ≤ d.fuse) : stepD d = ({ d with fuse := d.fuse - 1, steps := d.steps + 1 }, true) := by unfold stepD; rw [if_pos (by omega), if_neg (by omega)]
def SwapOut (old young : List UInt8) (d6 : Dk) (e6 : Nat) : Prop := (e6 = 0 ∧ d6.files = [⟨nmA, young, young.length⟩]) ∨ (e6 = 3 ∧ ∃ x s, d6.files = [⟨nmA, old, old.length⟩, ⟨nmB, x, s⟩])
theorem swap_out (old young : List UInt8) (n : Int) (hl : old.length + young.length ≤ 33554432) :
    SwapOut old young (renameD (syncD (appendD (dW5 old n) nmB young).1 nmB).1 nmB nmA).1 (renameD (syncD (appendD (dW5 old n) nmB young).1 nmB).1 nmB nmA).2 := by
  have ho : openE (dW5 old n) nmB = 0 := open_in (d := dW5 old n) rfl rB (f := ⟨nmB, [], 0⟩) (by simp [dW5, dW4]) rfl
  have hA : (appendD (dW5 old n) nmB young).1 = { (stepD (dW5 old n)).1 with files := [⟨nmA, old, old.length⟩, ⟨nmB, young, 0⟩], used := (old.length : Nat) + (young.length : Nat) } := by
    unfold appendD
    rw [ho, if_neg (by simp), if_neg (by unfold dW5 dW4; dsimp only; omega)]
    simp [dW5, dW4, dataD, abNe.1]
  rw [hA]
  clear hA ho
  have nDn : ∀ {d : Dk} (nm : ByteArray), d.down = true → openE d nm = 3 := fun nm h => by unfold openE; rw [h]; rfl
  have off : ∀ {d : Dk} {x : List UInt8} {s : Nat}, d.down = true → d.files = [⟨nmA, old, old.length⟩, ⟨nmB, x, s⟩] → SwapOut old young (renameD d nmB nmA).1 (renameD d nmB nmA).2 := fun {d x s} h hf => by
    have : renameD d nmB nmA = (d, 3) := by
      unfold renameD
      rw [nDn nmB h, if_neg (by rintro ⟨h1 | h1, _⟩ <;> omega), if_pos (by decide)]
    rw [this]
    exact .inr ⟨rfl, x, s, hf⟩
  have offS : ∀ {d : Dk} {x : List UInt8} {s : Nat}, d.down = true → d.files = [⟨nmA, old, old.length⟩, ⟨nmB, x, s⟩] → SwapOut old young (renameD (syncD d nmB).1 nmB nmA).1 (renameD (syncD d nmB).1 nmB nmA).2 := fun {d x s} h hf => by
    have : (syncD d nmB).1 = d := by
      unfold syncD
      rw [nDn nmB h, if_pos (by decide)]
    rw [this]
    exact off h hf
  have up : ∀ {d : Dk} {x : List UInt8} {s : Nat}, d.down = false → d.files = [⟨nmA, old, old.length⟩, ⟨nmB, x, s⟩] → openE d nmB = 0 := fun {d x s} h hf => open_in h rB (f := ⟨nmB, x, s⟩) (by rw [hf]; simp) rfl
  have syn : ∀ {d : Dk} {x : List UInt8} {s : Nat}, d.down = false → d.files = [⟨nmA, old, old.length⟩, ⟨nmB, x, s⟩] → (stepD d).2 = true → (syncD d nmB).1 = { (stepD d).1 with files := [⟨nmA, old, old.length⟩, ⟨nmB, x, x.length⟩] } := fun {d x s} h hf hs => by
    unfold syncD
    rw [up h hf, if_neg (by decide), if_pos hs]
    simp [dataD, hf, abNe.1]
  have synF : ∀ {d : Dk} {x : List UInt8} {s : Nat}, d.down = false → d.files = [⟨nmA, old, old.length⟩, ⟨nmB, x, s⟩] → (stepD d).2 = false → (syncD d nmB).1 = (stepD d).1 := fun {d x s} h hf hs => by
    unfold syncD
    rw [up h hf, if_neg (by decide), if_neg (by simp [hs])]
  have ren : ∀ {d : Dk}, d.down = false → d.files = [⟨nmA, old, old.length⟩, ⟨nmB, young, young.length⟩] → (stepD d).2 = true → SwapOut old young (renameD d nmB nmA).1 (renameD d nmB nmA).2 := fun {d} h hf hs => by
    have : renameD d nmB nmA = ({ (stepD d).1 with files := renF d nmB nmA, used := d.used - (lenF d nmA : Nat) }, 0) := by
      unfold renameD
      rw [up h hf, if_neg (by rw [rA]; simp), if_neg (by decide), if_neg (by simp [hs]), if_neg abNe.2]
    rw [this]
    refine .inl ⟨rfl, ?_⟩
    unfold renF getF
    rw [hf]
    simp [abNe.1]
  have renF' : ∀ {d : Dk}, d.down = false → d.files = [⟨nmA, old, old.length⟩, ⟨nmB, young, young.length⟩] → (stepD d).2 = false → SwapOut old young (renameD d nmB nmA).1 (renameD d nmB nmA).2 := fun {d} h hf hs => by
    have : renameD d nmB nmA = ((stepD d).1, 3) := by
      unfold renameD
      rw [up h hf, if_neg (by rw [rA]; simp), if_neg (by decide), if_pos hs]
    rw [this]
    exact .inr ⟨rfl, _, _, by rw [stepD_files]; exact hf⟩
  obtain ⟨F, hF⟩ : ∃ F, F = max 0 n := ⟨_, rfl⟩
  have hd5 : dW5 old n = { dW4 old with fuse := F } := by unfold dW5; rw [hF]
  rw [hd5]
  have hF0 : 0 ≤ F := by omega
  clear hF hd5
  by_cases h1 : F = 1
  · rw [st_one (d := { dW4 old with fuse := F }) h1]
    exact offS (x := young) (s := 0) rfl rfl
  · by_cases h0 : F = 0
    · rw [st_free (d := { dW4 old with fuse := F }) h0]
      rw [syn (x := young) (s := 0) rfl rfl (by rw [st_free]; exact h0)]
      rw [st_free (by exact h0)]
      exact ren rfl rfl (by rw [st_free]; exact h0)
    · rw [st_more (d := { dW4 old with fuse := F }) (by dsimp only; omega)]
      by_cases h2 : F = 2
      · have h21 : F - 1 = 1 := by omega
        rw [synF (x := young) (s := 0) rfl rfl (by rw [st_one]; exact h21)]
        rw [st_one (by exact h21)]
        exact off (x := young) (s := 0) rfl rfl
      · have h31 : 2 ≤ F - 1 := by omega
        rw [syn (x := young) (s := 0) rfl rfl (by rw [st_more]; exact h31)]
        rw [st_more (by exact h31)]
        by_cases h3 : F = 3
        · have h32 : F - 1 - 1 = 1 := by omega
          exact renF' rfl rfl (by rw [st_one]; exact h32)
        · have h33 : 2 ≤ F - 1 - 1 := by omega
          exact ren rfl rfl (by rw [st_more]; exact h33)
theorem swap_end {old young : List UInt8} {d8 : Dk} {e8 : Nat} (h : SwapOut old young d8 e8) (hI : DkInv d8) (keep : List Int) :
    ∃ l N, ((e8 = 0 ∧ l = young ∧ N = 1) ∨ (e8 = 3 ∧ l = old ∧ N = 2)) ∧ sizeD (restartD d8 keep) nmA = (l.length, 0) ∧ ∃ d', readD (restartD d8 keep) nmA 0 (l.length : Nat) = (d', l, 0) ∧ d'.files.length = N ∧ d'.down = false := by
  have hR := inv_restart hI keep
  rcases h with ⟨he, hf⟩ | ⟨he, x, s, hf⟩
  · have hm := restart_safe hI (f := ⟨nmA, young, young.length⟩) (by rw [hf]; simp) rfl keep
    obtain ⟨h1, d', h2, h3, h4⟩ := file_read hR rfl hm rA
    exact ⟨young, 1, .inl ⟨he, rfl, rfl⟩, h1, d', h2, by rw [h3, restart_len, hf]; rfl, h4⟩
  · have hm := restart_safe hI (f := ⟨nmA, old, old.length⟩) (by rw [hf]; simp) rfl keep
    obtain ⟨h1, d', h2, h3, h4⟩ := file_read hR rfl hm rA
    exact ⟨old, 2, .inr ⟨he, rfl, rfl⟩, h1, d', h2, by rw [h3, restart_len, hf]; rfl, h4⟩
end Go.Proofs.YtdoaniimfhpjhaaDoor
