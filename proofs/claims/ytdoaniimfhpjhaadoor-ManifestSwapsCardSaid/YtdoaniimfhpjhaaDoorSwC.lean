/-
  The walk of manifest.Load.
-/
import Derived.Test.YtdoaniimfhpjhaaDoorSwP
import Derived.Test.YtdoaniimfhpjhaaDoorManX
namespace Go.Proofs.YtdoaniimfhpjhaaDoor
open Go.RowKit
set_option linter.unusedVariables false
set_option linter.unusedSimpArgs false
open Go.Maps
def loadD (d : Dk) : Dk × Mf × Bool × Nat :=
  if (sizeD d nmM).2 = 51 then (d, noMf, false, 0) else if (sizeD d nmM).2 ≠ 0 then (d, noMf, false, (sizeD d nmM).2) else
  if (manD (readD d nmM 0 (sizeD d nmM).1).2.1).2 ≠ 0 then ((readD d nmM 0 (sizeD d nmM).1).1, noMf, false, (manD (readD d nmM 0 (sizeD d nmM).1).2.1).2) else
  ((readD d nmM 0 (sizeD d nmM).1).1, (manD (readD d nmM 0 (sizeD d nmM).1).2.1).1, true, 0)
theorem le_sumF {l : List Fil} {f : Fil} (h : f ∈ l) : f.data.length ≤ sumF l := by
  unfold sumF
  induction l with
  | nil => cases h
  | cons x l ih =>
    rw [List.map_cons, List.sum_cons]
    rcases List.mem_cons.1 h with rfl | h
    · omega
    · have := ih h; omega
theorem getF_small {d : Dk} (hI : DkInv d) (nm : ByteArray) : (((getF d nm).map (·.data)).getD []).length ≤ 67108864 := by
  cases hg : getF d nm with
  | none => simp
  | some f =>
    have h1 : f ∈ d.files := List.mem_of_find?_eq_some hg
    have h2 := le_sumF h1
    have h3 : d.used = (sumF d.files : Nat) := hI.ok.1
    have := hI.ok.2.1; have := hI.ok.2.2
    show f.data.length ≤ _
    omega
theorem read_small {d : Dk} (hI : DkInv d) (nm : ByteArray) (i n : Int) : (readD d nm i n).2.1.length ≤ 67108864 := by
  have h := getF_small hI nm
  unfold readD
  split; · simp
  dsimp only
  split; · simp
  rw [List.length_take, List.length_drop]
  omega
theorem size_small {d : Dk} (hI : DkInv d) (nm : ByteArray) : (sizeD d nm).1 ≤ 67108864 := by
  have h := getF_small hI nm
  unfold sizeD
  split; · simp
  show ((getF d nm).map (·.data.length)).getD 0 ≤ _
  cases hg : getF d nm with
  | none => simp
  | some f => rw [hg] at h; exact h
theorem turnRow {F : List Nat} {a : World} {g : Nat} {cs : Array Value} (hg : g ∈ F) : Turn F a (a.setRow g cs) :=
  ⟨rfl, rfl, rfl, by simp [World.setRow], fun k _ hn => by
    simp only [World.setRow, Array.getElem?_modify]
    rw [if_neg (fun e => hn (by rw [← e]; exact hg))]⟩
theorem FsX.keepM {W w w' : World} {g b : Nat} {d : Dk} {D : DataW Value} {hs : List HF} {F : List Nat} (h : FsX W w g d b D hs) (ht : Turn F w w') (hn : ∀ r ∈ F, r ∉ foot g b hs) (hb : ∀ r ∈ F, W.heap.size ≤ r) : FsX W w' g d b D hs :=
  { ext := ht.ext h.ext hb, blk := ht.blk h.blk (fun hc => hn _ hc foot_g), own := (by obtain ⟨n, hn', ho⟩ := h.own; exact ⟨n, hn', ht.map ho (fun hc => hn _ hc foot_b)⟩), map := h.map, fil := fun f hf => (h.fil f hf).turn ht (fun r hr hc => hn r hc (foot_h hf hr)), dis := h.dis, base := h.base, lt := fun r hr => Nat.lt_of_lt_of_le (h.lt r hr) ht.size, hsd := h.hsd, cnt := h.cnt }
/-- Behind a call, further worlds that touch blocks of the call's own alone. -/
theorem FsTo.keepM {W w w' w2 : World} {g b : Nat} {d' : Dk} {D' : DataW Value} {hs hs' : List HF} {F : List Nat} (hX : FsX W w' g d' b D' hs') (hT : Turn (foot g b hs) w w') (hf : ∀ r ∈ foot g b hs', r ∈ foot g b hs ∨ w.heap.size ≤ r) (ht : Turn F w' w2) (hn : ∀ r ∈ F, r ∉ foot g b hs') (hb : ∀ r ∈ F, W.heap.size ≤ r ∧ w.heap.size ≤ r) : FsTo W w w2 g b hs d' :=
  ⟨D', hs', hX.keepM ht hn (fun r hr => (hb r hr).1), hT.trans ht (fun r hr => .inr (hb r hr).2), hf⟩
def LdPost (W w : World) (g b : Nat) (hs : List HF) (r : Dk × Mf × Bool × Nat) (e : Ending) (w' : World) : Prop :=
  ∃ A c, e = .returned (.tuple #[.agg (mfcells r.2.1 A c), .bool r.2.2.1, .int .i64 (r.2.2.2 : Nat)]) ∧ FsTo W w w' g b hs r.1 ∧ OwnSg w' w.heap.size A r.2.1.segs c
/-- Load's end: the struct that it hands out is written into its own block. -/
theorem ld_end {W w w1 w2 w3 w9 : World} {g b : Nat} {d2 : Dk} {D2 : DataW Value} {hs hs2 : List HF} {m : Mf} {A : Option Addr} {c : Nat} {bl : Bool} {E : Nat} (hW : Ext W w) (hlt : ∀ r ∈ foot g b hs, r < w.heap.size) (hX1 : Ext w w1) (hs1 : w.heap.size < w1.heap.size) (hX2 : FsX W w2 g d2 b D2 hs2) (hT2 : Turn (foot g b hs) w1 w2) (hF2 : ∀ r ∈ foot g b hs2, r ∈ foot g b hs ∨ w1.heap.size ≤ r)
    (hx3 : Ext w2 w3) (ho3 : OwnSg w3 w2.heap.size A m.segs c) (ht : Turn [w.heap.size] w3 w9) : LdPost W w g b hs (d2, m, bl, E) (.returned (.tuple #[.agg (mfcells m A c), .bool bl, .int .i64 (E : Nat)])) w9 := by
  have np : w.heap.size ∉ foot g b hs := fun hc => by have := hlt _ hc; omega
  have h2 := hT2.size
  refine ⟨A, c, rfl, FsTo.keepM hX2 ((hX1.turn _).tr hT2) (fun r hr => (hF2 r hr).imp id fun h => Nat.le_trans hX1.size h) (((hx3.turn [w.heap.size])).tr ht) (fun r hr => ?_) (fun r hr => ?_), ?_⟩
  · rw [List.mem_singleton.1 hr]
    exact FsTo.off (W := W) (w' := w2) hF2 np hs1
  · rw [List.mem_singleton.1 hr]
    exact ⟨hW.size, Nat.le_refl _⟩
  · refine own_base (ht.own ho3 fun r hr hc => ?_) (by omega)
    have h1 := own_lt ho3 r hr
    have h4 := List.mem_singleton.1 hc
    omega
theorem ld_none {W w w' : World} {g b : Nat} {d : Dk} {D : DataW Value} {hs : List HF} {r : Dk × Mf × Bool × Nat} {E : Nat} (hr : r = (d, noMf, false, E)) (h : FsX W w g d b D hs) (hx : Ext w w') : LdPost W w g b hs r (.returned (.tuple #[.agg (mfcells noMf none 0), .bool false, .int .i64 (E : Nat)])) w' := by
  subst hr
  exact ⟨none, 0, rfl, ⟨D, hs, h.ext_ hx, hx.turn _, fun r hr => .inl hr⟩, World.ownsRow_nil _ _ _ _⟩
set_option maxRecDepth 100000 in
set_option maxHeartbeats 4000000 in
theorem load_any (W w : World) (g b : Nat) (d : Dk) (D : DataW Value) (hs : List HF) (h : FsX W w g d b D hs) (hI : DkInv d) (hN : Nib W) :
    Calls Tryd.prog 12 #[.pointer (some ⟨g, 0, none⟩)] w (LdPost W w g b hs (loadD d)) := by
  have KS := Lib.hid fun W2 (hx : Ext w W2) => sizeK (h.ext_ hx) nmM
  have HX := Lib.hid h
  have hlt := h.lt
  by_cases h51 : (sizeD d nmM).2 = 51
  · have Hr := Lib.hid (show loadD d = (d, noMf, false, 0) by unfold loadD; rw [if_pos h51])
    rw [h51] at KS
    unfold nmM at KS
    clear h hI hN h51 hlt
    go_enter Tryd.func12, Tryd.ntmps12
    go_wp2_with (first
      | (go_at_call 28; (with_reducible refine (KS.out _ (by repeat (first | with_reducible exact Below.refl _ _ | with_reducible assumption | with_reducible refine ExtD ?_ | with_reducible refine ExtDN ?_ | with_reducible refine ExtA ?_ | (with_reducible refine ExtR ?_ ?_; (first | omega | (dsimp only; omega) | (simp; done) | (simp; omega))) | (with_reducible refine ExtS ?_ ?_; (first | omega | (dsimp only; omega) | (simp; done) | (simp; omega))) | with_reducible refine Ext.tr ?_ (by with_reducible assumption)))).mono ?_); rintro e w1 ⟨rfl, hx1⟩; have b2 : Blk w1 w.heap.size 24 #[.int .i64 0, .int .i64 0, .int .i64 0, .int .i64 0, .int .i64 0, .slice none 0 0] := BlkE (BlkN rfl) hx1)
      | (with_reducible refine wpL_store_row rfl 24 (.tmp 2) (.tmp 17) rfl _ 24 _ _ rfl rfl b2 ((mf_size' _ _ _ _ _ _ _ _).trans (mf_size' _ _ _ _ _ _ _ _).symm) (mf_one' _ _ _ _ _ _ _ _) 6 mf_wide (mf_size' _ _ _ _ _ _ _ _) ?_))
    (try simp only [Exit.inBlock, Exit.then]); refine bodyPost_ret (v := .tuple #[.agg (mfcells noMf none 0), .bool false, .int .i64 0]) (res_row_tt rfl _ w.heap.size 24 _ 6 _ _ rfl rfl rfl (Blk.setRow_ b2) mf_wide rfl) rfl ?_
    exact ld_none Hr.out HX.out (ExtR (Nat.le_refl _) (Ext.tr (ExtA (Ext.rfl' w)) hx1))
  · by_cases h0 : (sizeD d nmM).2 = 0
    · have hsm := size_small hI nmM
      have KR := Lib.hid fun W2 (hx : Ext w W2) => readK (h.ext_ hx) hI nmM 0 (sizeD d nmM).1 (by unfold IsI64; omega) (by unfold IsI64; omega)
      unfold GaveB at KR
      have hrs := read_small hI nmM 0 (sizeD d nmM).1
      have Hr := Lib.hid (show loadD d = (if (manD (readD d nmM 0 (sizeD d nmM).1).2.1).2 ≠ 0 then ((readD d nmM 0 (sizeD d nmM).1).1, noMf, false, (manD (readD d nmM 0 (sizeD d nmM).1).2.1).2) else ((readD d nmM 0 (sizeD d nmM).1).1, (manD (readD d nmM 0 (sizeD d nmM).1).2.1).1, true, 0)) by unfold loadD; rw [if_neg h51, if_neg (by simp [h0])])
      rw [h0] at KS
      generalize (sizeD d nmM).1 = n at *
      generalize hrd : readD d nmM 0 (n : Nat) = R at *
      obtain ⟨d2, l, E2⟩ := R
      dsimp only at KR hrs Hr
      obtain ⟨n2, hn2⟩ : ∃ n2, n2 = l.length := ⟨_, rfl⟩
      have Hn2 := Lib.hid hn2
      rw [← hn2] at KR hrs
      have KD := Lib.hid fun A2 c2 W2 (hx : Ext W W2) (hr : Rd W2 A2 n2 (u8s l)) (hc : n2 ≤ c2) => mdec_any A2 n2 c2 l W2 (hN.ext hx) hr hc (by unfold maxLen; omega)
      unfold MdPost at KD
      have Hlt := Lib.hid hlt
      have Hnp := Lib.hid (show w.heap.size ∉ foot g b hs from fun hc => by have := hlt _ hc; omega)
      clear h hI hN h51 h0 hrd hn2 hlt
      unfold nmM at KS KR
      by_cases he : (manD l).2 = 0
      · have Hr2 := Lib.hid (show loadD d = (d2, (manD l).1, true, 0) by rw [Hr.out, if_neg (by simp [he])])
        rw [he] at KD
        obtain ⟨m, hm⟩ : ∃ m, m = (manD l).1 := ⟨_, rfl⟩
        rw [← hm] at KD Hr2
        unfold mfcells at KD
        clear he hm Hr
        go_enter Tryd.func12, Tryd.ntmps12
        go_wp2_with (first
          | (go_at_call 28; (with_reducible refine (KS.out _ (by repeat (first | with_reducible exact Below.refl _ _ | with_reducible assumption | with_reducible refine ExtD ?_ | with_reducible refine ExtDN ?_ | with_reducible refine ExtA ?_ | (with_reducible refine ExtR ?_ ?_; (first | omega | (dsimp only; omega) | (simp; done) | (simp; omega))) | (with_reducible refine ExtS ?_ ?_; (first | omega | (dsimp only; omega) | (simp; done) | (simp; omega))) | with_reducible refine Ext.tr ?_ (by with_reducible assumption)))).mono ?_); rintro e w1 ⟨rfl, hx1⟩; have b2 : Blk w1 w.heap.size 24 #[.int .i64 0, .int .i64 0, .int .i64 0, .int .i64 0, .int .i64 0, .slice none 0 0] := BlkE (BlkN rfl) hx1; have hX1 : Ext w w1 := (ExtA (Ext.rfl' w)).tr hx1; have hs1 : w.heap.size < w1.heap.size := b2.lt)
          | (go_at_call 29; (with_reducible refine (KR.out _ hX1).mono ?_); rintro e w2 ⟨A2, c2, rfl, ⟨D2, hs2, hX2, hT2, hF2⟩, ho2⟩)
          | (go_at_call 15; (with_reducible refine (KD.out _ _ _ hX2.ext (rd_own ho2) (own_capB ho2)).mono ?_); go_loud (rintro e w3 ⟨A3, c3, rfl, hx3, ho3⟩; have b3 : Blk w3 w.heap.size 24 #[.int .i64 0, .int .i64 0, .int .i64 0, .int .i64 0, .int .i64 0, .slice none 0 0] := BlkE (hT2.blk b2 Hnp.out) hx3; have l3 : w.heap.size ≠ w3.heap.size := Nat.ne_of_lt b3.lt; have b4 : Blk ((w3.alloc (.cells #[.int .i64 0, .int .i64 0, .int .i64 0, .int .i64 0, .int .i64 0, .slice none 0 0] 24)).setRow w3.heap.size #[.int .i64 m.gen, .int .i64 m.next, .int .i64 m.floor, .int .i64 m.snap, .int .i64 m.snapSeq, .slice A3 m.segs.length c3]) w.heap.size 24 #[.int .i64 0, .int .i64 0, .int .i64 0, .int .i64 0, .int .i64 0, .slice none 0 0] := BlkR l3 (BlkA b3)))
          | (with_reducible refine wpL_store_row rfl 24 (.tmp 9) (.tmp 31) rfl _ 24 _ _ rfl rfl (BlkN rfl) ((mf_size' _ _ _ _ _ _ _ _).trans (mf_size' _ _ _ _ _ _ _ _).symm) (mf_one' _ _ _ _ _ _ _ _) 6 mf_wide (mf_size' _ _ _ _ _ _ _ _) ?_)
          | (with_reducible refine wpL_load_row rfl 24 (.tmp 9) rfl _ 24 _ 6 rfl (Blk.setRow_ (BlkN rfl)) mf_wide (mf_size' _ _ _ _ _ _ _ _) ?_)
          | (with_reducible refine wpL_store_row rfl 24 (.tmp 2) (.tmp 37) rfl _ 24 _ _ rfl rfl b4 ((mf_size' _ _ _ _ _ _ _ _).trans (mf_size' _ _ _ _ _ _ _ _).symm) (mf_one' _ _ _ _ _ _ _ _) 6 mf_wide (mf_size' _ _ _ _ _ _ _ _) ?_))
        (try simp only [Exit.inBlock, Exit.then]); refine bodyPost_ret (v := .tuple #[.agg (mfcells m A3 c3), .bool true, .int .i64 0]) (res_row_tt rfl _ w.heap.size 24 _ 6 _ _ rfl rfl rfl (Blk.setRow_ b4) mf_wide rfl) rfl ?_
        rw [Hr2.out]
        exact ld_end HX.out.ext Hlt.out hX1 hs1 hX2 hT2 hF2 hx3 ho3 ((Ext.turn (ExtR (Nat.le_refl _) (ExtA (Ext.rfl' w3))) _).tr (turnRow (by simp)))
      · obtain ⟨E, hE⟩ : ∃ E, E = (manD l).2 := ⟨_, rfl⟩
        have Hr2 := Lib.hid (show loadD d = (d2, noMf, false, E) by rw [Hr.out, if_pos he, hE])
        rw [← hE] at KD he
        have hEi : ¬ ((E : Nat) : Int) = 0 := by omega
        obtain ⟨m, hm⟩ : ∃ m, m = (manD l).1 := ⟨_, rfl⟩
        rw [← hm] at KD
        unfold mfcells at KD
        clear hm hE Hr
        go_enter Tryd.func12, Tryd.ntmps12
        go_wp2_with (first
          | (go_at_call 28; (with_reducible refine (KS.out _ (by repeat (first | with_reducible exact Below.refl _ _ | with_reducible assumption | with_reducible refine ExtD ?_ | with_reducible refine ExtDN ?_ | with_reducible refine ExtA ?_ | (with_reducible refine ExtR ?_ ?_; (first | omega | (dsimp only; omega) | (simp; done) | (simp; omega))) | (with_reducible refine ExtS ?_ ?_; (first | omega | (dsimp only; omega) | (simp; done) | (simp; omega))) | with_reducible refine Ext.tr ?_ (by with_reducible assumption)))).mono ?_); rintro e w1 ⟨rfl, hx1⟩; have b2 : Blk w1 w.heap.size 24 #[.int .i64 0, .int .i64 0, .int .i64 0, .int .i64 0, .int .i64 0, .slice none 0 0] := BlkE (BlkN rfl) hx1; have hX1 : Ext w w1 := (ExtA (Ext.rfl' w)).tr hx1; have hs1 : w.heap.size < w1.heap.size := b2.lt)
          | (go_at_call 29; (with_reducible refine (KR.out _ hX1).mono ?_); rintro e w2 ⟨A2, c2, rfl, ⟨D2, hs2, hX2, hT2, hF2⟩, ho2⟩)
          | (go_at_call 15; (with_reducible refine (KD.out _ _ _ hX2.ext (rd_own ho2) (own_capB ho2)).mono ?_); go_loud (rintro e w3 ⟨A3, c3, rfl, hx3, ho3⟩; have b3 : Blk w3 w.heap.size 24 #[.int .i64 0, .int .i64 0, .int .i64 0, .int .i64 0, .int .i64 0, .slice none 0 0] := BlkE (hT2.blk b2 Hnp.out) hx3; have l3 : w.heap.size ≠ w3.heap.size := Nat.ne_of_lt b3.lt; have b4 : Blk ((w3.alloc (.cells #[.int .i64 0, .int .i64 0, .int .i64 0, .int .i64 0, .int .i64 0, .slice none 0 0] 24)).setRow w3.heap.size #[.int .i64 m.gen, .int .i64 m.next, .int .i64 m.floor, .int .i64 m.snap, .int .i64 m.snapSeq, .slice A3 m.segs.length c3]) w.heap.size 24 #[.int .i64 0, .int .i64 0, .int .i64 0, .int .i64 0, .int .i64 0, .slice none 0 0] := BlkR l3 (BlkA b3)))
          | (with_reducible refine wpL_store_row rfl 24 (.tmp 9) (.tmp 31) rfl _ 24 _ _ rfl rfl (BlkN rfl) ((mf_size' _ _ _ _ _ _ _ _).trans (mf_size' _ _ _ _ _ _ _ _).symm) (mf_one' _ _ _ _ _ _ _ _) 6 mf_wide (mf_size' _ _ _ _ _ _ _ _) ?_)
          | (with_reducible refine wpL_load_row rfl 24 (.tmp 9) rfl _ 24 _ 6 rfl (Blk.setRow_ (BlkN rfl)) mf_wide (mf_size' _ _ _ _ _ _ _ _) ?_)
          | (with_reducible refine wpL_store_row rfl 24 (.tmp 2) (.tmp 35) rfl _ 24 _ _ rfl rfl b4 ((mf_size' _ _ _ _ _ _ _ _).trans (mf_size' _ _ _ _ _ _ _ _).symm) (mf_one' _ _ _ _ _ _ _ _) 6 mf_wide (mf_size' _ _ _ _ _ _ _ _) ?_))
        (try simp only [Exit.inBlock, Exit.then]); refine bodyPost_ret (v := .tuple #[.agg (mfcells noMf none 0), .bool false, .int .i64 (E : Nat)]) (res_row_tt rfl _ w.heap.size 24 _ 6 _ _ rfl rfl rfl (Blk.setRow_ b4) mf_wide rfl) rfl ?_
        rw [Hr2.out]
        exact ld_end (m := noMf) HX.out.ext Hlt.out hX1 hs1 hX2 hT2 hF2 hx3 (World.ownsRow_nil _ _ _ _) ((Ext.turn (ExtR (Nat.le_refl _) (ExtA (Ext.rfl' w3))) _).tr (turnRow (by simp)))
    · obtain ⟨E, hE⟩ : ∃ E, E = (sizeD d nmM).2 := ⟨_, rfl⟩
      have Hr := Lib.hid (show loadD d = (d, noMf, false, E) by unfold loadD; rw [if_neg h51, if_pos h0, hE])
      rw [← hE] at KS h51 h0
      have h51i : ¬ ((E : Nat) : Int) = 51 := by omega
      have h0i : ¬ ((E : Nat) : Int) = 0 := by omega
      unfold nmM at KS
      clear h hI hN hlt hE
      go_enter Tryd.func12, Tryd.ntmps12
      go_wp2_with (first
        | (go_at_call 28; (with_reducible refine (KS.out _ (by repeat (first | with_reducible exact Below.refl _ _ | with_reducible assumption | with_reducible refine ExtD ?_ | with_reducible refine ExtDN ?_ | with_reducible refine ExtA ?_ | (with_reducible refine ExtR ?_ ?_; (first | omega | (dsimp only; omega) | (simp; done) | (simp; omega))) | (with_reducible refine ExtS ?_ ?_; (first | omega | (dsimp only; omega) | (simp; done) | (simp; omega))) | with_reducible refine Ext.tr ?_ (by with_reducible assumption)))).mono ?_); rintro e w1 ⟨rfl, hx1⟩; have b2 : Blk w1 w.heap.size 24 #[.int .i64 0, .int .i64 0, .int .i64 0, .int .i64 0, .int .i64 0, .slice none 0 0] := BlkE (BlkN rfl) hx1)
        | (with_reducible refine wpL_store_row rfl 24 (.tmp 2) (.tmp 20) rfl _ 24 _ _ rfl rfl b2 ((mf_size' _ _ _ _ _ _ _ _).trans (mf_size' _ _ _ _ _ _ _ _).symm) (mf_one' _ _ _ _ _ _ _ _) 6 mf_wide (mf_size' _ _ _ _ _ _ _ _) ?_))
      (try simp only [Exit.inBlock, Exit.then]); refine bodyPost_ret (v := .tuple #[.agg (mfcells noMf none 0), .bool false, .int .i64 (E : Nat)]) (res_row_tt rfl _ w.heap.size 24 _ 6 _ _ rfl rfl rfl (Blk.setRow_ b2) mf_wide rfl) rfl ?_
      exact ld_none Hr.out HX.out (ExtR (Nat.le_refl _) (Ext.tr (ExtA (Ext.rfl' w)) hx1))
end Go.Proofs.YtdoaniimfhpjhaaDoor
