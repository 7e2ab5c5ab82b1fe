/-
  The walk of the law NumShares: every Share, against the reference; new memory.
-/
import Derived.Test.YtjomgppbialeoaaGreatShareH
import Derived.Test.YtjomgppbialeoaaGreatShareX
namespace Go.Proofs.YtjomgppbialeoaaGreat
open Go.RowKit
set_option linter.unusedVariables false
set_option linter.unusedSimpArgs false
theorem refshare_ok (t : Int) (A : Option Addr) (n c : Nat) (l : List Int) (w : World) (ht0 : -9223372036854775808 ≤ t) (ht1 : t ≤ 9223372036854775807) (hr : Rd w A n (ints l)) (hl : I64 l) (hb : n ≤ maxLen) (h : shOk t l) :
    Calls Tryz.prog 15 #[.int .i64 t, .slice A n c] w fun e w' => ∃ A c, e = .returned (.tuple #[.slice A n c, .bool true]) ∧ Ext w w' ∧ w'.ownsRow w.heap.size 2 1 (.slice A n c) n (ints (shList t.toNat l)) :=
  (refshare_any t A n c l w ht0 ht1 hr hl hb).mono fun e w' ⟨hx, _, h2⟩ => by
    obtain ⟨A, c, h3, h4⟩ := h2 h
    exact ⟨A, c, h3, hx, h4⟩
theorem refshare_no (t : Int) (A : Option Addr) (n c : Nat) (l : List Int) (w : World) (ht0 : -9223372036854775808 ≤ t) (ht1 : t ≤ 9223372036854775807) (hr : Rd w A n (ints l)) (hl : I64 l) (hb : n ≤ maxLen) (h : ¬ shOk t l) :
    Calls Tryz.prog 15 #[.int .i64 t, .slice A n c] w fun e w' => e = .returned (.tuple #[.slice none 0 0, .bool false]) ∧ Ext w w' :=
  (refshare_any t A n c l w ht0 ht1 hr hl hb).mono fun e w' ⟨hx, h1, _⟩ => ⟨h1 h, hx⟩
theorem own_formI {w : World} {base n c : Nat} {A : Option Addr} {l : List Int} (h : w.ownsRow base 2 1 (.slice A n c) n (ints l)) (h0 : 0 < n) : ∃ g cur, A = some ⟨g, 0, none⟩ ∧ base ≤ g ∧ Blk w g 2 cur ∧ n ≤ cur.size := by
  have hl := h.1
  rcases h.2 with ⟨h1, h2⟩ | ⟨g, cap, cur, h1, h2, h3, h4, h5, h6, h7⟩
  · omega
  · injection h1 with h8 h9 h10
    exact ⟨g, cur, h8, h2, h3, by rw [h6]; omega⟩
/-- A row that is written over: each cell is some int64; blocks but its own stay. -/
def WrR (W : World) (g n : Nat) (c54 : Value) (wr : World) : Prop :=
  ∃ (k : Nat) (cs : Array Value), c54 = .int .i64 (k : Nat) ∧ k ≤ n ∧ Blk wr g 2 cs ∧ n ≤ cs.size ∧ W.grownBy wr (some g)
theorem wr_step {W wr : World} {g k : Nat} {cs : Array Value} {u : Value} (hb : Blk wr g 2 cs) (hg : W.grownBy wr (some g)) : W.grownBy (wr.setCell ⟨g, k, none⟩ u) (some g) := grown_set hg u
end Go.Proofs.YtjomgppbialeoaaGreat
