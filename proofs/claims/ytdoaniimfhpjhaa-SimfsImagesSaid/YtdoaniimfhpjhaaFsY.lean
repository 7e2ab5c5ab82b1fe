/-
  The disk's calls, as the laws' walks take them: one contract a call, of any disk that keeps the invariants.
-/
import Derived.Test.YtdoaniimfhpjhaaFsV
namespace Go.Proofs.Ytdoaniimfhpjhaa
open Go.RowKit
set_option linter.unusedVariables false
set_option linter.unusedSimpArgs false
open Go.Maps
abbrev gP (g : Nat) : Value := .pointer (some ⟨g, 0, none⟩)
section
variable {W w : World} {g b : Nat} {d : Dk} {D : DataW Value} {hs : List HF}
theorem createK (h : FsX W w g d b D hs) (hI : DkInv d) (hst : d.steps ≤ 4611686018427387904) (nm : ByteArray) : Calls Try.prog 17 #[.pointer (some ⟨g, 0, none⟩), .string nm] w fun e w' => e = .returned (.int .i64 ((createD d nm).2 : Nat)) ∧ FsTo W w w' g b hs (createD d nm).1 := create_any W w g b d D hs nm h (hI.num hst)
theorem appendK (h : FsX W w g d b D hs) (hI : DkInv d) (hst : d.steps ≤ 4611686018427387904) (nm : ByteArray) (B : Option Addr) (m c : Nat) (l : List UInt8) (hlm : l.length = m) (hm : m ≤ 140737488355328) (hr : ∀ w', Turn (foot g b hs) w w' → Rd w' B m (u8s l)) :
    Calls Try.prog 18 #[.pointer (some ⟨g, 0, none⟩), .string nm, .slice B m c] w fun e w' => e = .returned (.int .i64 ((appendD d nm l).2 : Nat)) ∧ FsTo W w w' g b hs (appendD d nm l).1 := append_any W w g b d D hs nm B m c l h (hI.num hst) hI.ok hlm hm hr
theorem syncK (h : FsX W w g d b D hs) (hI : DkInv d) (hst : d.steps ≤ 4611686018427387904) (nm : ByteArray) : Calls Try.prog 31 #[.pointer (some ⟨g, 0, none⟩), .string nm] w fun e w' => e = .returned (.int .i64 ((syncD d nm).2 : Nat)) ∧ FsTo W w w' g b hs (syncD d nm).1 := sync_any W w g b d D hs nm h (hI.num hst)
theorem renameK (h : FsX W w g d b D hs) (hI : DkInv d) (hst : d.steps ≤ 4611686018427387904) (nm tn : ByteArray) : Calls Try.prog 32 #[.pointer (some ⟨g, 0, none⟩), .string nm, .string tn] w fun e w' => e = .returned (.int .i64 ((renameD d nm tn).2 : Nat)) ∧ FsTo W w w' g b hs (renameD d nm tn).1 := rename_any W w g b d D hs nm tn h (hI.num hst) hI.ok
theorem removeK (h : FsX W w g d b D hs) (hI : DkInv d) (hst : d.steps ≤ 4611686018427387904) (nm : ByteArray) : Calls Try.prog 33 #[.pointer (some ⟨g, 0, none⟩), .string nm] w fun e w' => e = .returned (.int .i64 ((removeD d nm).2 : Nat)) ∧ FsTo W w w' g b hs (removeD d nm).1 := remove_any W w g b d D hs nm h (hI.num hst) hI.ok
theorem cutK (h : FsX W w g d b D hs) (hI : DkInv d) (hst : d.steps ≤ 4611686018427387904) (nm : ByteArray) (n : Int) (hn : IsI64 n) : Calls Try.prog 34 #[.pointer (some ⟨g, 0, none⟩), .string nm, .int .i64 n] w fun e w' => e = .returned (.int .i64 ((cutD d nm n).2 : Nat)) ∧ FsTo W w w' g b hs (cutD d nm n).1 := cut_any W w g b d D hs nm n h (hI.num hst) hI.ok hn
theorem readK (h : FsX W w g d b D hs) (hI : DkInv d) (nm : ByteArray) (i n : Int) (hi : IsI64 i) (hn : IsI64 n) : Calls Try.prog 35 #[.pointer (some ⟨g, 0, none⟩), .string nm, .int .i64 i, .int .i64 n] w (GaveB W w g b hs (readD d nm i n).1 (readD d nm i n).2.1 (readD d nm i n).2.2) := read_any W w g b d D hs nm i n h hI.ok hi hn
theorem sizeK (h : FsX W w g d b D hs) (nm : ByteArray) : Calls Try.prog 36 #[.pointer (some ⟨g, 0, none⟩), .string nm] w fun e w' => e = .returned (.tuple #[.int .i64 ((sizeD d nm).1 : Nat), .int .i64 ((sizeD d nm).2 : Nat)]) ∧ Ext w w' := size_any W w g b d D hs nm h
theorem fuseK (h : FsX W w g d b D hs) (n : Int) : Calls Try.prog 38 #[.pointer (some ⟨g, 0, none⟩), .int .i64 n] w fun e w' => e = .returned (.tuple #[]) ∧ FsTo W w w' g b hs { d with fuse := max 0 n } := fuse_any W w g b d D hs n h
theorem restartK (h : FsX W w g d b D hs) (hI : DkInv d) (AK : Option Addr) (nk ck : Nat) (keep : List Int) (hnk : nk ≤ 140737488355328) (hr : ∀ w', Turn (foot g b hs) w w' → Rd w' AK nk (ints keep)) (hki : ∀ x ∈ keep, IsI64 x) :
    Calls Try.prog 37 #[.pointer (some ⟨g, 0, none⟩), .slice AK nk ck] w fun e w' => e = .returned (.tuple #[]) ∧ FsTo W w w' g b hs (restartD d keep) := restart_any W w g b d D hs AK nk ck keep h hI.ok hI.safe hnk hr hki
theorem usedK (h : FsX W w g d b D hs) : Calls Try.prog 19 #[.pointer (some ⟨g, 0, none⟩)] w fun e w' => e = .returned (.int .i64 d.used) ∧ Ext w w' := used_any W w g b d D hs h
theorem freeK (h : FsX W w g d b D hs) (hI : DkInv d) : Calls Try.prog 20 #[.pointer (some ⟨g, 0, none⟩)] w fun e w' => e = .returned (.int .i64 (d.room - d.used)) ∧ Ext w w' := free_any W w g b d D hs h hI.ok
theorem downK (h : FsX W w g d b D hs) : Calls Try.prog 24 #[.pointer (some ⟨g, 0, none⟩)] w fun e w' => e = .returned (.bool d.down) ∧ Ext w w' := down_any W w g b d D hs h
theorem stepsK (h : FsX W w g d b D hs) : Calls Try.prog 22 #[.pointer (some ⟨g, 0, none⟩)] w fun e w' => e = .returned (.int .i64 d.steps) ∧ Ext w w' := steps_any W w g b d D hs h
theorem readsK (h : FsX W w g d b D hs) : Calls Try.prog 23 #[.pointer (some ⟨g, 0, none⟩)] w fun e w' => e = .returned (.int .i64 d.read) ∧ Ext w w' := reads_any W w g b d D hs h
theorem listK (h : FsX W w g d b D hs) : Calls Try.prog 25 #[.pointer (some ⟨g, 0, none⟩)] w (GaveL w d) := list_any W w g b d D hs h
theorem listUp (h : FsX W w g d b D hs) (hd : d.down = false) : Calls Try.prog 25 #[.pointer (some ⟨g, 0, none⟩)] w (GaveN w w d.files) := by
  have := listK h
  have e : GaveL w d = GaveN w w d.files := by funext e w'; unfold GaveL; rw [hd]; simp
  rw [e] at this
  exact this
theorem imageK (h : FsX W w g d b D hs) (hI : DkInv d) : Calls Try.prog 16 #[.pointer (some ⟨g, 0, none⟩)] w (GaveF w (imgL d)) := image_any W w g b d D hs h hI.ok
theorem newK (room : Int) (w : World) : Calls Try.prog 6 #[.int .i64 room] w fun e w' => ∃ g b, e = .returned (.pointer (some ⟨g, 0, none⟩)) ∧ FsX w w' g (newD room) b (.map []) [] := fsnew_any room w
end
theorem createD_steps (d : Dk) (nm : ByteArray) : d.steps ≤ (createD d nm).1.steps ∧ (createD d nm).1.steps ≤ d.steps + 1 := by
  have := stepD_steps d
  unfold createD
  repeat (first | (dsimp only; omega) | split)
theorem appD_steps (d : Dk) (nm : ByteArray) (l : List UInt8) : d.steps ≤ (appendD d nm l).1.steps ∧ (appendD d nm l).1.steps ≤ d.steps + 1 := by
  have := stepD_steps d
  unfold appendD
  repeat (first | (dsimp only; omega) | split)
theorem syncD_steps (d : Dk) (nm : ByteArray) : d.steps ≤ (syncD d nm).1.steps ∧ (syncD d nm).1.steps ≤ d.steps + 1 := by
  have := stepD_steps d
  unfold syncD
  repeat (first | (dsimp only; omega) | split)
theorem renameD_steps (d : Dk) (nm tn : ByteArray) : d.steps ≤ (renameD d nm tn).1.steps ∧ (renameD d nm tn).1.steps ≤ d.steps + 1 := by
  have := stepD_steps d
  unfold renameD
  repeat (first | (dsimp only; omega) | split)
theorem removeD_steps (d : Dk) (nm : ByteArray) : d.steps ≤ (removeD d nm).1.steps ∧ (removeD d nm).1.steps ≤ d.steps + 1 := by
  have := stepD_steps d
  unfold removeD
  repeat (first | (dsimp only; omega) | split)
theorem cutD_steps (d : Dk) (nm : ByteArray) (n : Int) : d.steps ≤ (cutD d nm n).1.steps ∧ (cutD d nm n).1.steps ≤ d.steps + 1 := by
  have := stepD_steps d
  unfold cutD
  repeat (first | (dsimp only; omega) | split)
theorem readD_steps (d : Dk) (nm : ByteArray) (i n : Int) : (readD d nm i n).1.steps = d.steps := by
  unfold readD
  split
  · rfl
  · dsimp only
    split <;> rfl
end Go.Proofs.Ytdoaniimfhpjhaa
