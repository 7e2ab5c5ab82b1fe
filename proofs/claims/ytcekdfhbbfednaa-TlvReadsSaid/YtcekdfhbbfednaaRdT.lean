/-
  A reader and the law's own list of fields, step by step: what both find, and what both have left.
-/
import Derived.Test.YtcekdfhbbfednaaRdU
import Derived.Test.YtcekdfhbbfednaaRdS
import Derived.Test.YtcekdfhbbfednaaPutO
namespace Go.Proofs.Ytcekdfhbbfednaa
open Go.RowKit
set_option linter.unusedVariables false
set_option linter.unusedSimpArgs false
open Go.Maps
theorem OwnFs.low {w w' : World} {base n c : Nat} {A : Option Addr} {hs : List Held} {F : List Nat} (h : OwnFs w base A n c hs) (ht : Turn F w w') (hF : ∀ r ∈ F, r < base) : OwnFs w' base A n c hs :=
  h.turn ht (fun r hr hc => by have := (h.1.lt r (own_blkOf hr)).1; have := hF r hc; omega) (fun f hf r hr hc => by have := ((h.2 f hf).lt r (own_blkOf hr)).1; have := hF r hc; omega)
theorem RdX.low {w w' : World} {base g b : Nat} {hs : List Held} {bad : Nat} {D : DataW Value} {F : List Nat} (h : RdX w base g b hs bad D) (ht : Turn F w w') (hF : ∀ r ∈ F, r < base) : RdX w' base g b hs bad D where
  blk := ht.blk h.blk (fun hc => by have := hF _ hc; have := h.lo.1; omega)
  own := h.own.turn ht (fun hc => by have := hF _ hc; have := h.lo.2; omega)
  map := h.map
  wf := h.wf
  txt := fun x hx => ht.own (h.txt x hx) fun r hr hc => by have := ((h.txt x hx).lt r hr).1; have := hF r hc; omega
  ne := h.ne
  lo := h.lo
theorem RdX.mono {w : World} {base base' g b : Nat} {hs : List Held} {bad : Nat} {D : DataW Value} (h : RdX w base g b hs bad D) (hb : base' ≤ base) : RdX w base' g b hs bad D where
  blk := h.blk
  own := h.own
  map := h.map
  wf := h.wf
  txt := fun x hx => own_base (h.txt x hx) hb
  ne := h.ne
  lo := ⟨Nat.le_trans hb h.lo.1, Nat.le_trans hb h.lo.2⟩
theorem OwnFs.mono {w : World} {base base' n c : Nat} {A : Option Addr} {hs : List Held} (h : OwnFs w base A n c hs) (hb : base' ≤ base) : OwnFs w base' A n c hs := ⟨own_base h.1 hb, fun f hf => own_base (h.2 f hf) hb⟩
/-- A reader's own blocks, seen by a list of fields that is not the reader's. -/
theorem OwnFs.turnR {w w' : World} {base base2 n c g b : Nat} {A : Option Addr} {hs hr : List Held} {bad : Nat} {D : DataW Value} (h : OwnFs w base A n c hs) (hx : RdX w base2 g b hr bad D) (ht : Turn [g, b] w w') : OwnFs w' base A n c hs := by
  have off : ∀ {v : Value} {n2 s : Nat} {e : TypeId} {xs : List Value}, e ≠ 85 → w.ownsRow base e s v n2 xs → ∀ r, v.ownBlock = some r → r ∉ [g, b] := fun he ho r hr hc => by
    rcases List.mem_cons.1 hc with rfl | hc
    · exact blk_off ho hx.blk (fun h => he h.symm) hr
    · rw [List.mem_singleton.1 hc] at hr
      exact own_notmap hx.own ho hr
  exact ⟨ht.own h.1 (off (by decide) h.1), fun f hf => ht.own (h.2 f hf) (off (by decide) (h.2 f hf))⟩
/-- Two lists of the same fields: what is found in both, and what is left of both. -/
theorem find_both {l1 l2 : List Held} (h : l1.map (·.1) = l2.map (·.1)) (t : Int) : (findH l1 t).map (·.1) = (findH l2 t).map (·.1) := by
  unfold findH
  have e : ∀ l : List Held, (l.find? fun h => decide (h.1.tag = t)).map (·.1) = (l.map (·.1)).find? fun f => decide (f.tag = t) := fun l => by rw [List.find?_map]; rfl
  rw [e, e, h]
theorem strike_both {l1 l2 : List Held} (h : l1.map (·.1) = l2.map (·.1)) (t : Int) : (strike t l1).map (·.1) = (strike t l2).map (·.1) := by
  unfold strike
  have e : ∀ l : List Held, (l.filter fun h => decide (h.1.tag ≠ t)).map (·.1) = (l.map (·.1)).filter fun f => decide (f.tag ≠ t) := fun l => by rw [List.filter_map]; rfl
  rw [e, e, h]
theorem strike_len (t : Int) (l : List Held) : (strike t l).length ≤ l.length := List.length_filter_le _ _
theorem strike_rise {t : Int} {l : List Held} (h : (l.map (·.1.tag)).Pairwise (· < ·)) : ((strike t l).map (·.1.tag)).Pairwise (· < ·) := h.sublist (List.filter_sublist.map _)
theorem strike_mem {t : Int} {l : List Held} {x : Held} (h : x ∈ strike t l) : x ∈ l := (List.mem_filter.1 h).1
theorem take_none {hs : List Held} {t : Int} (tx : Bool) (bad : Nat) (h : findH hs t = none) : takeH hs t tx = (noFld, none, 0) ∧ takeB hs t tx bad = bad := by unfold takeH takeB; rw [h]; exact ⟨rfl, rfl⟩
theorem take_hit {hs : List Held} {t : Int} {tx : Bool} (bad : Nat) {x : Held} (h : findH hs t = some x) (hx : x.1.text = tx) : takeH hs t tx = x ∧ takeB hs t tx bad = bad := by unfold takeH takeB; rw [h]; exact ⟨if_pos hx, if_pos hx⟩
theorem take_wrong {hs : List Held} {t : Int} {tx : Bool} (bad : Nat) {x : Held} (h : findH hs t = some x) (hx : x.1.text ≠ tx) : takeH hs t tx = (noFld, none, 0) ∧ takeB hs t tx bad = 33 := by unfold takeH takeB; rw [h]; exact ⟨if_neg hx, if_neg hx⟩
theorem take_hitN {hs : List Held} {t : Int} (tx : Bool) (bad : Nat) {x : Held} (h : findH hs t = some x) (hx : x.1.text = tx) : takeH hs t tx = x ∧ takeB hs t tx bad = bad := take_hit bad h hx
theorem take_wrongN {hs : List Held} {t : Int} (tx : Bool) (bad : Nat) {x : Held} (h : findH hs t = some x) (hx : x.1.text ≠ tx) : takeH hs t tx = (noFld, none, 0) ∧ takeB hs t tx bad = 33 := take_wrong bad h hx
theorem strike_snoc {t : Int} {l : List Held} {k : Nat} {h : Held} (hk : l[k]? = some h) : strike t (l.take (k + 1)) = if h.1.tag = t then strike t (l.take k) else strike t (l.take k) ++ [h] := by
  unfold strike
  rw [List.take_add_one, hk, List.filter_append]
  simp only [Option.toList_some]
  by_cases hh : h.1.tag = t
  · rw [if_pos hh]; simp [hh]
  · rw [if_neg hh]; simp [hh]
def RdR (W : World) (g b : Nat) (S : List HP) (Ap : Option Addr) (cp : Nat) (d8 d12 d92 : Value) (wr : World) : Prop :=
  ∃ (k : Nat) (A8 : Option Addr) (c8 : Nat) (lf : List Held) (form : Bool) (hs : List Held) (D : DataW Value),
    d92 = .int .i64 (k : Nat) ∧ k ≤ S.length ∧ d8 = .slice A8 lf.length c8 ∧ d12 = .bool form ∧ Ext W wr ∧ OwnFs wr W.heap.size A8 lf.length c8 lf ∧ RdX wr W.heap.size g b hs (if form = true then 33 else 0) D ∧
    lf.map (·.1) = hs.map (·.1) ∧ (hs.map (·.1.tag)).Pairwise (· < ·) ∧ FWf (hs.map (·.1)) ∧ hs.length ≤ 31 ∧ wr.ownsRow W.heap.size 48 4 (.slice Ap S.length cp) S.length (ptCells S)
/-- The list of what is left, as the law lays it. -/
def LfR (wx : World) (lf : List Held) (t : Int) (d22 d211 : Value) (wy : World) : Prop :=
  ∃ (j : Nat) (A2 : Option Addr) (c2 : Nat), d211 = .int .i64 (j : Nat) ∧ j ≤ lf.length ∧ d22 = .slice A2 (strike t (lf.take j)).length c2 ∧ wy.ownsRow wx.heap.size 29 4 (.slice A2 (strike t (lf.take j)).length c2) (strike t (lf.take j)).length (fsCells (strike t (lf.take j))) ∧ Ext wx wy
/-- The tags that a reader has left, looked over and written over. -/
def RestR (w9 : World) (base : Nat) (A : Option Addr) (c : Nat) (T : List Int) (d : Value) (wy : World) : Prop :=
  ∃ (j : Nat) (xs : List Int), d = .int .i64 (j : Nat) ∧ j ≤ T.length ∧ Turn (blkOf A) w9 wy ∧ wy.ownsRow base 3 1 (.slice A T.length c) T.length (ints xs) ∧ xs.drop j = T.drop j
theorem drop_head {xs T : List Int} {j : Nat} (h : xs.drop j = T.drop j) (hj : j < T.length) : xs[j]? = T[j]? ∧ ∀ q, (xs.set j q).drop (j + 1) = T.drop (j + 1) := by
  refine ⟨?_, fun q => ?_⟩
  · have h1 := congrArg (fun l => l[0]?) h
    simpa using h1
  · have h1 := congrArg (fun l => l.drop 1) h
    rw [List.drop_set_of_lt (by omega)]
    simpa [Nat.add_comm] using h1
end Go.Proofs.Ytcekdfhbbfednaa
