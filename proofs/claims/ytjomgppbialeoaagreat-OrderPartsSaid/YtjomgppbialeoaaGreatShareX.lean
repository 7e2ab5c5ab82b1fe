/-
  The walks of the laws' helper shares, and of the law NumShareWhole.
-/
import Derived.Test.YtjomgppbialeoaaGreatShareW
import Derived.Test.YtjomgppbialeoaaGreatNumLawA
namespace Go.Proofs.YtjomgppbialeoaaGreat
open Go.RowKit
set_option linter.unusedVariables false
set_option linter.unusedSimpArgs false
def shList (T : Nat) (l : List Int) : List Int := (List.range l.length).map fun i => (shareN T l i : Int)
theorem shList_len (T : Nat) (l : List Int) : (shList T l).length = l.length := by simp [shList]
theorem shList_get (T : Nat) (l : List Int) (i : Nat) (h : i < l.length) : (shList T l).getD i 0 = (shareN T l i : Int) := by simp [shList, List.getD, h]
theorem rd_blk {w : World} {g : Nat} {t : TypeId} {cs : Array Value} (h : Blk w g t cs) : Rd w (some ⟨g, 0, none⟩) cs.size cs.toList :=
  ⟨by simp, fun _ => ⟨g, 0, rfl, fun j u hu => by rw [Nat.zero_add, h.cell j]; simpa using hu⟩⟩
theorem rd_share {w : World} {g : Nat} {t : TypeId} {T n : Nat} {l : List Int} (hn : l.length = n) (h : Blk w g t (rowA .i64 n (shareN T l))) : Rd w (some ⟨g, 0, none⟩) n (ints (shList T l)) := by
  have h1 := rd_blk h
  rw [rowA_size] at h1
  have : (rowA .i64 n (shareN T l)).toList = ints (shList T l) := by subst hn; simp [rowA, ints, shList]
  rw [this] at h1
  exact h1
theorem share_ok (t : Int) (A : Option Addr) (n c : Nat) (l : List Int) (w : World) (ht0 : -9223372036854775808 ≤ t) (ht1 : t ≤ 9223372036854775807) (hr : Rd w A n (ints l)) (hl : I64 l) (hb : n ≤ maxLen) (h : shOk t l) :
    Calls Tryz.prog 18 #[.int .i64 t, .slice A n c] w fun e w' => ∃ g, e = .returned (.tuple #[.slice (some ⟨g, 0, none⟩) n n, .bool true]) ∧ Ext w w' ∧ w.heap.size ≤ g ∧ Blk w' g 2 (rowA .i64 n (shareN t.toNat l)) :=
  (share_any t A n c l w ht0 ht1 hr hl hb).mono fun e w' ⟨hx, _, h2⟩ => by
    obtain ⟨g, h3, h4, h5⟩ := h2 h
    exact ⟨g, h4, hx, h3, h5⟩
theorem share_no (t : Int) (A : Option Addr) (n c : Nat) (l : List Int) (w : World) (ht0 : -9223372036854775808 ≤ t) (ht1 : t ≤ 9223372036854775807) (hr : Rd w A n (ints l)) (hl : I64 l) (hb : n ≤ maxLen) (h : ¬ shOk t l) :
    Calls Tryz.prog 18 #[.int .i64 t, .slice A n c] w fun e w' => e = .returned (.tuple #[.slice none 0 0, .bool false]) ∧ Ext w w' :=
  (share_any t A n c l w ht0 ht1 hr hl hb).mono fun e w' ⟨hx, h1, _⟩ => ⟨h1 h, hx⟩
theorem ones : shList 10 [1, 1, 1] = [4, 3, 3] := by decide +kernel
theorem ones_ok : shOk 10 [1, 1, 1] := ⟨by decide, by decide, by intro v hv; simp at hv; omega, by decide +kernel, by decide +kernel⟩
end Go.Proofs.YtjomgppbialeoaaGreat
