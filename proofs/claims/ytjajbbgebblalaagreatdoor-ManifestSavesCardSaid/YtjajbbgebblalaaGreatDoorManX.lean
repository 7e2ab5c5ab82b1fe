/-
  The walk of manifest.Decode: its range over slices.Chunk too.
-/
import Derived.Test.YtjajbbgebblalaaGreatDoorManD
import Derived.Test.YtjajbbgebblalaaGreatDoorMaxW
import Derived.Test.YtjajbbgebblalaaGreatDoorManK
import Derived.Test.YtjajbbgebblalaaGreatDoorManKc
import Derived.RangeFuncNested
import Derived.Deep.RegionHeld3
import Derived.Deep.CutRange
namespace Go.Proofs.YtjajbbgebblalaaGreatDoor
open Go.RowKit
set_option linter.unusedVariables false
set_option linter.unusedSimpArgs false
open Go.Shelf
attribute [local go_sem] Oper.semAt_some
theorem manD_def (b : List UInt8) : manD b = (if (fdec b).2.2 ≠ 0 ∨ (fdec b).1.1 ≠ 4 ∨ (fdec b).2.1 ≠ b.length then (noMf, 80)
  else if (vsdec (fdec b).1.2.2 1028).2.2 ≠ 0 ∨ (vsdec (fdec b).1.2.2 1028).2.1 ≠ (fdec b).1.2.2.length ∨ (vsdec (fdec b).1.2.2 1028).1.length < 8 ∨ (vsdec (fdec b).1.2.2 1028).1.length % 4 ≠ 0 ∨ ∃ u ∈ (vsdec (fdec b).1.2.2 1028).1, 2199023255552 < u then (noMf, 80)
  else if manB (manOf (fdec b).1.2.1 (vsdec (fdec b).1.2.2 1028).1) = true then (manOf (fdec b).1.2.1 (vsdec (fdec b).1.2.2 1028).1, 0) else (noMf, 80)) := rfl
theorem bodyPostM_ret {F : Fence} {n : Nat} {P : Program} {fn : Func} {R : Ending → World → Prop} {a : Act} {w : World} {v : Value} (hr : (results fn a.tmps).run P w = .ok v w) (hd : a.defers = []) (hR : R (.returned v) w) : bodyPostM F n P fn R .ret a w := by
  show LeavesInM F n P fn a.tmps R a.defers .returning w
  rw [hd]
  exact ⟨v, hr, hR⟩
theorem bodyPostM_ret1 {F : Fence} {n : Nat} {P : Program} {fn : Func} {R : Ending → World → Prop} {a : Act} {w : World} {v : Value} {D : Nat} (hd : a.defers = [{ target := .collected D, args := #[] }]) (hk : w.heap[D]? = some (.deferred (some [])))
    (hr : (results fn a.tmps).run P (w.putObj D (.deferred none)) = .ok v (w.putObj D (.deferred none))) (hR : R (.returned v) (w.putObj D (.deferred none))) : bodyPostM F n P fn R .ret a w := by
  show LeavesInM F n P fn a.tmps R a.defers .returning w
  rw [hd]
  exact ⟨by simp, .inl ⟨_, _, rfl, run_takeDeferred hk, ⟨v, hr, hR⟩⟩⟩

/-- The x-th segment of a manifest's numbers. -/
def sgAt (us : List Nat) {q : Nat} (x : {j : Nat // j < q}) : Sg := ⟨us.getD (4 + 4 * x.1) 0, us.getD (4 + 4 * x.1 + 1) 0, us.getD (4 + 4 * x.1 + 2) 0, us.getD (4 + 4 * x.1 + 3) 0⟩
theorem chs_val (q : Nat) : ∀ k, k ≤ q → (chs q k).map (fun x => x.1) = List.range k
  | 0, _ => rfl
  | k + 1, h => by rw [chs_succ (by omega), List.map_append, chs_val q k (by omega), List.range_succ]; rfl
theorem chs_segs {us : List Nat} {q : Nat} (h : us.length = 4 + 4 * q) : (chs q q).map (sgAt us) = segsOf (us.drop 4) := by
  have hl : (segsOf (us.drop 4)).length = q := by rw [segsOf_len, List.length_drop]; omega
  refine List.ext_getElem? fun j => ?_
  by_cases hj : j < q
  · rw [segsOf_get _ j (by omega)]
    have h1 : ((chs q q).map (fun x => x.1))[j]? = some j := by rw [chs_val q q (Nat.le_refl _), List.getElem?_range hj]
    rw [List.getElem?_map] at h1 ⊢
    obtain ⟨x, hx, hv⟩ := Option.map_eq_some_iff.1 h1
    rw [hx]
    unfold sgAt
    simp only [Option.map_some, hv, List.getD_eq_getElem?_getD, List.getElem?_drop]
    rfl
  · rw [List.getElem?_eq_none (by rw [List.length_map, chs_length (Nat.le_refl _)]; omega), List.getElem?_eq_none (by omega)]
/-- What holds between two rounds. -/
def McI (W0 : World) (s a0 a1 a2 a3 g8 Bs Bn : Nat) (c1 c2 : Array Value) (us : List Nat) {q : Nat} (pre : List {j : Nat // j < q}) (W : World) : Prop :=
  ∃ B d, Ext W0 W ∧ Blk W g8 25 #[.int .i64 (s : Nat), .int .i64 (a0 : Nat), .int .i64 (a1 : Nat), .int .i64 (a2 : Nat), .int .i64 (a3 : Nat), .slice B pre.length d] ∧ OwnSg W W0.heap.size B (pre.map (sgAt us)) d ∧ Blk W Bs 113 c1 ∧ Blk W Bn 3 c2
theorem blk_from {w w' : World} {g : Nat} {t : TypeId} {cs : Array Value} {row : Option Nat} (h : Blk w g t cs) (hg : w.grownBy w' row) (hr : ∀ r, row = some r → ∃ o : Obj, w.heap[r]? = some o ∧ o.isCells = false) : Blk w' g t cs :=
  BlkG h hg fun e => by
    obtain ⟨o, ho, hc⟩ := hr g e.symm
    have h2 : w.heap[g]? = some (.cells cs t (0, 0)) := h
    rw [h2] at ho
    cases ho
    cases hc
theorem own_from {w w' : World} {base s n : Nat} {e : TypeId} {v : Value} {xs : List Value} {row : Option Nat} (h : w.ownsRow base e s v n xs) (hg : w.grownBy w' row) (hr : ∀ r, row = some r → ∃ o : Obj, w.heap[r]? = some o ∧ o.isCells = false) : w'.ownsRow base e s v n xs := by
  refine h.kept hg ?_
  rcases h.2 with ⟨rfl, _⟩ | ⟨g, cap, cur, rfl, _, hgb, _⟩
  · exact .inl rfl
  · refine .inr fun e' => ?_
    have e2 : some g = row := by simpa [Value.ownBlock] using e'
    obtain ⟨o, ho, hc⟩ := hr g e2.symm
    rw [hgb] at ho
    cases ho
    cases hc
theorem mcI_from {W0 : World} {s a0 a1 a2 a3 g8 Bs Bn : Nat} {c1 c2 : Array Value} {us : List Nat} {q B0 : Nat} (hB : W0.heap.size ≤ B0) : OwnFrom B0 (McI W0 s a0 a1 a2 a3 g8 Bs Bn c1 c2 us (q := q)) := by
  rintro pre W W' row ⟨B, d, h1, h2, h3, h4, h5⟩ hg hr
  have hc := fun r e => (hr r e).2
  exact ⟨B, d, Below.grown h1 hg h1.size (fun k e => by have := (hr k e).1; omega), blk_from h2 hg hc, own_from h3 hg hc, blk_from h4 hg hc, blk_from h5 hg hc⟩
theorem own_cells {w : World} {base s n c : Nat} {e : TypeId} {A : Option Addr} {xs : List Value} (h : w.ownsRow base e s (.slice A n c) n xs) : ∀ j, (Value.slice A n c).ownBlock = some j → ∃ cur, Blk w j e cur := by
  intro j hj
  rcases h.2 with ⟨h1, _⟩ | ⟨g, cap, cur, h1, _, hgb, _⟩
  · rw [h1] at hj; cases hj
  · injection h1 with h1 _ _
    rw [h1] at hj
    cases hj
    exact ⟨cur, hgb⟩
theorem kpC_put {n₀ Bs Bn : Nat} {w : World} (hn : n₀ ≤ w.heap.size) (h1 : Bs < w.heap.size) (h2 : Bn < w.heap.size) (W : World) (l : Nat) (o o' : Obj) (hl : w.heap.size ≤ l) (h : W.heap[l]? = some o) (hc : o.isCells = false) (hw : o.isWalk = false) : KpC n₀ Bs Bn W (W.putObj l o') :=
  ⟨belowK_b hn W l o o' hl h hc hw, World.putObj_heap_other (by omega), World.putObj_heap_other (by omega)⟩
/-- What is owed at the end of a round. -/
theorem mc_round {W0 wq w7 : World} {s a0 a1 a2 a3 g8 Bs Bn d2 d3 : Nat} {B B3 : Option Addr} {c1 c2 M : Array Value} {us : List Nat} {q : Nat} {pre : List {j : Nat // j < q}} {x : {j : Nat // j < q}}
    (hM : M = sgcells (sgAt us x)) (hg8 : W0.heap.size ≤ g8) (hx : Ext W0 wq) (h2 : Blk wq g8 25 #[.int .i64 (s : Nat), .int .i64 (a0 : Nat), .int .i64 (a1 : Nat), .int .i64 (a2 : Nat), .int .i64 (a3 : Nat), .slice B pre.length d2]) (h3 : OwnSg wq W0.heap.size B (pre.map (sgAt us)) d2) (h4 : Blk wq Bs 113 c1) (h5 : Blk wq Bn 3 c2)
    (hown : w7.ownsRow W0.heap.size 115 4 (.slice B3 (pre.length + 1) d3) (pre.length + 1) (sgCells (pre.map (sgAt us)) ++ M.toList))
    (hg : World.grownBy (wq.drew.alloc (.cells M 115)) w7 (Value.slice B pre.length d2).ownBlock)
    (q7 : Blk w7 g8 25 #[.int .i64 (s : Nat), .int .i64 (a0 : Nat), .int .i64 (a1 : Nat), .int .i64 (a2 : Nat), .int .i64 (a3 : Nat), .slice B pre.length d2]) (hS : Ext W0 (w7.setCell ⟨g8, 5, none⟩ (.slice B3 (pre.length + 1) d3))) :
    KeepsOthers wq (w7.setCell ⟨g8, 5, none⟩ (.slice B3 (pre.length + 1) d3)) ∧ KpC W0.heap.size Bs Bn wq (w7.setCell ⟨g8, 5, none⟩ (.slice B3 (pre.length + 1) d3)) ∧ McI W0 s a0 a1 a2 a3 g8 Bs Bn c1 c2 us (pre ++ [x]) (w7.setCell ⟨g8, 5, none⟩ (.slice B3 (pre.length + 1) d3)) := by
  have hlp : (pre.map (sgAt us)).length = pre.length := List.length_map _
  have h3' : wq.ownsRow W0.heap.size 115 4 (.slice B pre.length d2) pre.length (sgCells (pre.map (sgAt us))) := by unfold OwnSg at h3; rwa [hlp] at h3
  have hcl := own_cells (MOwnA (o := .cells M 115) (MOwnD h3))
  rw [hlp] at hcl
  have hne : ∀ {g : Nat} {t : TypeId} {cs : Array Value}, Blk wq g t cs → t ≠ 115 → some g ≠ (Value.slice B pre.length d2).ownBlock := fun {g t cs} hb ht e => by
    obtain ⟨cur, hc⟩ := hcl g e.symm
    have h9 : Blk (wq.drew.alloc (.cells M 115)) g t cs := BlkA (BlkD hb)
    unfold Blk at h9 hc
    rw [h9] at hc
    cases hc
    exact ht rfl
  have b4 : Blk w7 Bs 113 c1 := BlkG (BlkA (BlkD h4)) hg (hne h4 (by decide))
  have b5 : Blk w7 Bn 3 c2 := BlkG (BlkA (BlkD h5)) hg (hne h5 (by decide))
  have n4 : Bs ≠ g8 := fun e => by rw [e] at h4; unfold Blk at h2 h4; rw [h2] at h4; injection h4 with h4; injection h4 with _ h4; revert h4; decide
  have n5 : Bn ≠ g8 := fun e => by rw [e] at h5; unfold Blk at h2 h5; rw [h2] at h5; injection h5 with h5; injection h5 with _ h5; revert h5; decide
  have hgB : Below W0.heap.size wq (w7.setCell ⟨g8, 5, none⟩ (.slice B3 (pre.length + 1) d3)) :=
    (((Below.refl W0.heap.size wq).drew.alloc (by have := hx.size; simpa using this) _).grown hg (by have := hx.size; simp; omega) (fun k e => (World.ownsRow.lt h3' k e).1)).setCell hg8 _
  refine ⟨(((KeepsOthers.drew wq).trans (KeepsOthers.alloc _ _)).trans (KeepsOthers.of_grownBy hg fun j o e ho => ?_)).trans (KeepsOthers.setCell _ _ _), ⟨hgB, ?_, ?_⟩, B3, d3, hS, ?_, ?_, BlkF n4 b4, BlkF n5 b5⟩
  · obtain ⟨cur, hc⟩ := hcl j e
    unfold Blk at hc
    rw [hc] at ho
    cases ho
    rfl
  · exact (BlkF (p := ⟨g8, 5, none⟩) n4 b4).trans h4.symm
  · exact (BlkF (p := ⟨g8, 5, none⟩) n5 b5).trans h5.symm
  · have := BlkS (i := 5) (u := .slice B3 (pre.length + 1) d3) q7
    rw [List.length_append]
    exact this
  · have o3 : OwnSg w7 W0.heap.size B3 ((pre ++ [x]).map (sgAt us)) d3 := by
      unfold OwnSg
      rw [List.length_map, List.length_append, List.map_append, sgCells_app]
      rw [hM] at hown
      have : sgCells (List.map (sgAt us) [x]) = (sgcells (sgAt us x)).toList := sgCells_one1 _
      rw [this]
      exact hown
    exact MOwnSt (mown_apart o3 q7) o3
theorem slice_u64 (b o n c q : Nat) (hq : n = 4 + 4 * q) (h8 : 8 ≤ n) (hc : n ≤ c) (W : World) : (Instr.slice 113 (.slice (some ⟨b, o, none⟩) n c) (some (.int .i64 4)) none none).run Tryz.prog W = .ok (.slice (some ⟨b, o + 4, none⟩) (4 * q) (c - 4)) W := by
  rw [run_slice_l W 113 (some ⟨b, o, none⟩) n c (by kernel_rfl : Tryz.prog.underlying 113 = some (.slice (Tryz.prog.elem 113))) .i64 4 (by omega) (by omega), (by kernel_rfl : (sizeOf (Tryz.prog.elem 113)).run Tryz.prog W = .ok 1 W), Result.andThen_ok]
  have e1 : n - 4 = 4 * q := by omega
  have h4 : ¬ c = 4 := by omega
  simp [sliced, h4, Addr.add, e1]
theorem own_le {w : World} {base s n c : Nat} {e : TypeId} {A : Option Addr} {xs : List Value} (h : w.ownsRow base e s (.slice A n c) n xs) : n ≤ c := by
  rcases h.2 with ⟨h1, h2⟩ | ⟨g, cap, cur, h1, _, _, h2, _⟩
  · omega
  · injection h1 with _ _ h3
    omega
theorem dfE {w w' : World} {D : Nat} {o : Obj} (hx : Ext w w') (h : w.heap[D]? = some o) : w'.heap[D]? = some o := (hx.block D (Array.getElem?_eq_some_iff.1 h).1).trans h
theorem dfR {w : World} {g D : Nat} {ds cs : Array Value} {t : TypeId} {o : Obj} (hb : Blk w g t cs) (h : w.heap[D]? = some o) (hc : o.isCells = false) : (w.setRow g ds).heap[D]? = some o := by
  have hne : D ≠ g := fun e => by
    rw [e] at h
    have h2 : w.heap[g]? = some (.cells cs t (0, 0)) := hb
    rw [h2] at h
    cases h
    cases hc
  simp only [World.setRow, Array.getElem?_modify]
  rw [if_neg (fun e => hne e.symm)]
  exact h
theorem blkP {w : World} {g D : Nat} {cs : Array Value} {t : TypeId} {o o' : Obj} (hb : Blk w g t cs) (h : w.heap[D]? = some o) (hc : o.isCells = false) : Blk (w.putObj D o') g t cs := by
  have hne : g ≠ D := fun e => by
    rw [← e] at h
    have h2 : w.heap[g]? = some (.cells cs t (0, 0)) := hb
    rw [h2] at h
    cases h
    cases hc
  exact (World.putObj_heap_other hne).trans hb
theorem extP {a w : World} {D : Nat} {o' : Obj} (hx : Ext a w) (hD : a.heap.size ≤ D) : Ext a (w.putObj D o') := Below.grown hx (grownBy_putObj' w D o') hx.size (fun k e => by cases e; exact hD)
set_option maxRecDepth 100000 in
set_option maxHeartbeats 8000000 in
theorem mdec_any (A : Option Addr) (n c : Nat) (l : List UInt8) (w : World) (hN : Nib w) (hr : Rd w A n (u8s l)) (hnc : n ≤ c) (hn : n ≤ maxLen) :
    Calls Tryz.prog 45 #[.slice A n c] w (MdPost w (manD l)) := by
  have hlen : l.length = n := by have := hr.1; rw [u8s_len] at this; exact this
  have KD := Lib.hid fun W (hx : Ext w W) => fwhole_any A n c l 4 W (hN.ext hx) (hr.ext hx) hnc hn
  have hfw : fwhole l 4 = if (fdec l).2.2 ≠ 0 then ((0, 0, []), (fdec l).2.2) else if (fdec l).1.1 ≠ 4 ∨ (fdec l).2.1 ≠ n then ((0, 0, []), 63) else ((fdec l).1, 0) := by unfold fwhole; rw [hlen]
  have HBi : Hid ((fdec l).2.2 = 0 → (fdec l).1.2.2.length ≤ 16384) := Lib.hid fun h => by
    obtain ⟨_, _, _, _, _, _, hb⟩ := fdec_inv (b := l) (k := (fdec l).1.1) (s := (fdec l).1.2.1) (body := (fdec l).1.2.2) (n := (fdec l).2.1) (by rw [← h])
    exact hb
  have hR := manD_def l
  rw [hlen] at hR
  generalize manD l = RR at *
  unfold WhPost at KD
  rw [hfw] at KD
  generalize fdec l = r at *
  obtain ⟨⟨k0, s, body⟩, sz, E⟩ := r
  dsimp only at KD hR HBi
  unfold frcells at KD
  clear hr hfw hN
  have mixed : Tryz.prog.follows Departure.mixedOrders = true := by kernel_rfl
  by_cases hbad : E ≠ 0 ∨ k0 ≠ 4 ∨ sz ≠ n
  · rw [if_pos hbad] at hR
    have hd := Lib.hid hR
    have KB : Hid (∀ W, Ext w W → Calls Tryz.prog 99 #[.slice A n c, .int .i64 4] W fun e w' => ∃ A1 c1, e = .returned (.tuple #[.agg #[.int .i64 0, .int .i64 0, .slice A1 0 c1], .int .i64 (if E ≠ 0 then E else 63 : Nat)]) ∧ Ext W w') := Lib.hid fun W hx => by
      refine (KD.out W hx).mono ?_
      by_cases he : E ≠ 0
      · rw [if_pos he, if_pos he]
        rintro e w' ⟨A1, c1, rfl, h1, _⟩
        exact ⟨A1, c1, rfl, h1⟩
      · rw [if_neg he, if_pos (hbad.resolve_left he), if_neg he]
        rintro e w' ⟨A1, c1, rfl, h1, _⟩
        exact ⟨A1, c1, rfl, h1⟩
    obtain ⟨E9, hE9⟩ : ∃ E9, E9 = (if E ≠ 0 then E else 63) := ⟨_, rfl⟩
    have hE9' : E9 ≠ 0 := by rw [hE9]; split <;> omega
    rw [← hE9] at KB
    have u1 : ((E9 : Int) == 0) = false := by simp; omega
    have u1b : ((E9 : Int) != 0) = true := by simp; omega
    clear hR HBi hbad KD hE9 hE9'
    go_enter Tryz.func45, Tryz.ntmps45
    go_wp2_with (first
      | (go_at_call 99; (with_reducible refine (KB.out _ (by repeat (first | with_reducible exact Below.refl _ _ | with_reducible assumption | with_reducible refine ExtD ?_ | with_reducible refine ExtDN ?_ | with_reducible refine ExtA ?_ | (with_reducible refine ExtR ?_ ?_; (first | omega | (dsimp only; omega) | (simp; done) | (simp; omega))) | (with_reducible refine ExtS ?_ ?_; (first | omega | (dsimp only; omega) | (simp; done) | (simp; omega))) | with_reducible refine Ext.tr ?_ (by with_reducible assumption)))).mono ?_); rintro e w1 ⟨A1, c1, rfl, hx1⟩; have b2 : Blk w1 w.heap.size 25 #[.int .i64 0, .int .i64 0, .int .i64 0, .int .i64 0, .int .i64 0, .slice none 0 0] := BlkE (BlkN rfl) hx1; have hs1 : w.heap.size ≤ w1.heap.size := Nat.le_of_lt b2.lt)
      | (with_reducible refine wpL_store_row rfl 119 (.tmp 4) (.tmp 13) rfl _ 119 _ _ rfl rfl (BlkN rfl) (three_size.trans three_size.symm) (three_one rfl rfl rfl) 3 fr_wide three_size ?_)
      | (with_reducible refine wpL_store_row rfl 25 (.tmp 2) (.tmp 17) rfl _ 25 _ _ rfl rfl (BlkR (Nat.ne_of_lt b2.lt) (BlkA b2)) ((mf_size' _ _ _ _ _ _ _ _).trans (mf_size' _ _ _ _ _ _ _ _).symm) (mf_one' _ _ _ _ _ _ _ _) 6 mf_wide (mf_size' _ _ _ _ _ _ _ _) ?_))
    ((try simp only [Exit.inBlock, Exit.then]); refine bodyPost_ret (v := .tuple #[.agg (mfcells noMf none 0), .int .i64 80]) (res_row_t rfl _ w.heap.size 25 _ 6 _ rfl rfl ?_ mf_wide rfl) rfl ?_)
    · exact Blk.setRow_ (BlkR (Nat.ne_of_lt b2.lt) (BlkA b2))
    · exact md_bad hd.out rfl (by repeat (first | with_reducible exact Below.refl _ _ | with_reducible assumption | with_reducible refine ExtD ?_ | with_reducible refine ExtDN ?_ | with_reducible refine ExtA ?_ | (with_reducible refine ExtR ?_ ?_; (first | omega | (dsimp only; omega) | (simp; done) | (simp; omega))) | (with_reducible refine ExtS ?_ ?_; (first | omega | (dsimp only; omega) | (simp; done) | (simp; omega))) | with_reducible refine Ext.tr ?_ (by with_reducible assumption)))
  obtain ⟨rfl, rfl, hsz⟩ : E = 0 ∧ k0 = 4 ∧ sz = n := by omega
  subst hsz
  rw [if_neg (by simp)] at hR
  rw [if_neg (by simp), if_neg (by simp)] at KD
  dsimp only at KD
  have hb0 := HBi.out rfl
  clear hbad
  have hvi : (vsdec body 1028).2.2 = 0 → (vsdec body 1028).1.length ≤ 1028 ∧ ∀ u ∈ (vsdec body 1028).1, u < 18446744073709551616 := fun h => by
    obtain ⟨_, _, _, h3, h4⟩ := vsdec_inv (b := body) (most := 1028) (m := (vsdec body 1028).2.1) (us := (vsdec body 1028).1) (by rw [← h])
    exact ⟨h3, h4⟩
  have HVi := Lib.hid hvi
  obtain ⟨m0, hm0⟩ : ∃ m0, m0 = body.length := ⟨_, rfl⟩
  rw [← hm0] at KD hb0 hR
  replace KD : Hid (∀ W, Ext w W → Calls Tryz.prog 99 #[.slice A sz c, .int .i64 4] W fun e w' => ∃ A1 c1, e = .returned (.tuple #[.agg #[.int .i64 4, .int .i64 (s : Nat), .slice A1 m0 c1], .int .i64 0]) ∧ Ext W w' ∧ w'.ownsRow W.heap.size 5 1 (.slice A1 m0 c1) m0 (u8s body) ∧ m0 ≤ c1) := Lib.hid KD.out
  have KV : Hid (∀ A1 c1 W, Rd W A1 m0 (u8s body) → m0 ≤ c1 → Calls Tryz.prog 100 #[.slice A1 m0 c1, .int .i64 1028] W (VsPost W (vsdec body 1028))) := Lib.hid fun A1 c1 W h hc => vsdec_any A1 m0 c1 body 1028 W h hc (by omega) (by decide) (by decide)
  unfold VsPost at KV
  generalize vsdec body 1028 = r2 at *
  obtain ⟨us, at_, E2⟩ := r2
  dsimp only at KV HVi hR
  have HMb := Lib.hid hm0
  obtain ⟨n2, hn2⟩ : ∃ n2, n2 = us.length := ⟨_, rfl⟩
  rw [← hn2] at KV HVi hR
  have Hn2 := Lib.hid hn2
  have HRR := Lib.hid hR
  clear hvi hm0 HBi hn2 hR
  refine callsIn_wide.1 (callsIn_of_wp_marks (n := 6) Tryz.func45 rfl trivial ?_ rfl)
  refine wpIn_wide.2 ?_
  simp only [Tryz.ntmps45, List.size_toArray, List.length_cons, List.length_nil, Nat.reduceAdd, Nat.reduceSub, Array.replicate_succ, Array.replicate_zero, List.push_toArray, List.append_toArray, List.nil_append, List.cons_append]
  go_upto_region 2 with (first
    | (go_at_call 99; (with_reducible refine (KD.out _ (by repeat (first | with_reducible exact Below.refl _ _ | with_reducible assumption | with_reducible refine ExtD ?_ | with_reducible refine ExtDN ?_ | with_reducible refine ExtA ?_ | (with_reducible refine ExtR ?_ ?_; (first | omega | (dsimp only; omega) | (simp; done) | (simp; omega))) | (with_reducible refine ExtS ?_ ?_; (first | omega | (dsimp only; omega) | (simp; done) | (simp; omega))) | with_reducible refine Ext.tr ?_ (by with_reducible assumption)))).mono ?_); rintro e w1 ⟨A1, c1, rfl, hx1, ho1, hc1⟩; have b2 : Blk w1 w.heap.size 25 #[.int .i64 0, .int .i64 0, .int .i64 0, .int .i64 0, .int .i64 0, .slice none 0 0] := BlkE (BlkN rfl) hx1; have hs1 : w.heap.size ≤ w1.heap.size := Nat.le_of_lt b2.lt)
    | (with_reducible refine wpL_store_row rfl 119 (.tmp 4) (.tmp 13) rfl _ 119 _ _ rfl rfl (BlkN rfl) (three_size.trans three_size.symm) (three_one rfl rfl rfl) 3 fr_wide three_size ?_))
  have hs1 : w.heap.size < w1.heap.size := b2.lt
  have b6 : Blk ((w1.alloc (.cells #[.int .i64 0, .int .i64 0, .slice none 0 0] 119)).setRow w1.heap.size #[.int .i64 4, .int .i64 (s : Nat), .slice A1 m0 c1]) w1.heap.size 119 #[.int .i64 4, .int .i64 (s : Nat), .slice A1 m0 c1] := Blk.setRow_ (BlkN rfl)
  have b4 : Blk ((w1.alloc (.cells #[.int .i64 0, .int .i64 0, .slice none 0 0] 119)).setRow w1.heap.size #[.int .i64 4, .int .i64 (s : Nat), .slice A1 m0 c1]) w.heap.size 25 #[.int .i64 0, .int .i64 0, .int .i64 0, .int .i64 0, .int .i64 0, .slice none 0 0] := BlkR (Nat.ne_of_lt b2.lt) (BlkA b2)
  have hw1 : Ext w w1 := (ExtA (Ext.rfl' w)).tr hx1
  have hX : Ext w ((w1.alloc (.cells #[.int .i64 0, .int .i64 0, .slice none 0 0] 119)).setRow w1.heap.size #[.int .i64 4, .int .i64 (s : Nat), .slice A1 m0 c1]) := ExtR (Nat.le_of_lt hs1) (ExtA hw1)
  have ho : ((w1.alloc (.cells #[.int .i64 0, .int .i64 0, .slice none 0 0] 119)).setRow w1.heap.size #[.int .i64 4, .int .i64 (s : Nat), .slice A1 m0 c1]).ownsRow w.heap.size 5 1 (.slice A1 m0 c1) m0 (u8s body) := own_row_apart (World.ownsRow.alloc (own_base ho1 (ExtA (Ext.rfl' w)).size) _) (BlkN rfl)
  generalize (w1.alloc (.cells #[.int .i64 0, .int .i64 0, .slice none 0 0] 119)).setRow w1.heap.size #[.int .i64 4, .int .i64 (s : Nat), .slice A1 m0 c1] = W2 at *
  have hg : w.heap.size ≠ w1.heap.size := by omega
  generalize w1.heap.size = g6 at *
  have f2 : W2.cell? ⟨g6, 2, none⟩ = some (.slice A1 m0 c1) := b6.cell 2
  have RB := Lib.hid (rd_own ho)
  have hc1' := hc1
  clear hx1 ho1 b2 hw1 ho KD
  go_upto_region 5 with (go_at_call 100; (with_reducible refine (KV.out _ _ _ RB.out hc1').mono ?_); rintro e w3 ⟨A3, c3, rfl, hx3, ho3⟩)
  have B4 := Lib.hid (BlkE b4 hx3)
  have B6 := Lib.hid (BlkE b6 hx3)
  have HX3 := Lib.hid (hX.tr hx3)
  have hz3 : W2.heap.size ≤ w3.heap.size := hx3.size
  have hz2 : w.heap.size ≤ W2.heap.size := hX.size
  have RU := Lib.hid (Rd.of_own ho3)
  have hg6 : g6 < w3.heap.size := B6.out.lt
  have F2 : Hid (w3.cell? ⟨g6, 2, none⟩ = some (.slice A1 m0 c1)) := Lib.hid (B6.out.cell 2)
  have HO3 := Lib.hid ho3
  clear hx3 ho3 b4 b6 hX f2 KV RB
  by_cases he2 : E2 = 0
  case neg =>
    have hR := HRR.out
    rw [if_pos (.inl he2)] at hR
    have hd := Lib.hid hR
    have u2 : ((E2 : Int) == 0) = false := by simp; omega
    have u2b : ((E2 : Int) != 0) = true := by simp; omega
    have b4 := B4.out
    have hX := HX3.out
    have f2 := F2.out
    clear hR
    go_wp2_with (first
      | (with_reducible refine wpL_store_row rfl 25 (.tmp 2) (.tmp 50) rfl _ 25 _ _ rfl rfl b4 ((mf_size' _ _ _ _ _ _ _ _).trans (mf_size' _ _ _ _ _ _ _ _).symm) (mf_one' _ _ _ _ _ _ _ _) 6 mf_wide (mf_size' _ _ _ _ _ _ _ _) ?_))
    ((try simp only [Exit.inBlock, Exit.then]); refine bodyPostM_ret (v := .tuple #[.agg (mfcells noMf none 0), .int .i64 80]) (res_row_t rfl _ w.heap.size 25 _ 6 _ rfl rfl ?_ mf_wide rfl) rfl ?_)
    · exact Blk.setRow_ b4
    · exact md_bad hd.out rfl (by repeat (first | with_reducible exact Below.refl _ _ | with_reducible assumption | with_reducible refine ExtD ?_ | with_reducible refine ExtDN ?_ | with_reducible refine ExtA ?_ | (with_reducible refine ExtR ?_ ?_; (first | omega | (dsimp only; omega) | (simp; done) | (simp; omega))) | (with_reducible refine ExtS ?_ ?_; (first | omega | (dsimp only; omega) | (simp; done) | (simp; omega))) | with_reducible refine Ext.tr ?_ (by with_reducible assumption)))
  subst he2
  by_cases hat : at_ = m0
  case neg =>
    have hR := HRR.out
    rw [if_pos (.inr (.inl hat))] at hR
    have hd := Lib.hid hR
    have u3 : ((at_ : Int) == (m0 : Int)) = false := by simp; omega
    have u3b : ((at_ : Int) != (m0 : Int)) = true := by simp; omega
    have u3c : (at_ == m0) = false := by simp; omega
    have u3d : (at_ != m0) = true := by simp; omega
    have b4 := B4.out
    have hX := HX3.out
    have f2 := F2.out
    clear hR
    go_wp2_with (first
      | (with_reducible refine wpL_store_row rfl 25 (.tmp 2) (.tmp 50) rfl _ 25 _ _ rfl rfl b4 ((mf_size' _ _ _ _ _ _ _ _).trans (mf_size' _ _ _ _ _ _ _ _).symm) (mf_one' _ _ _ _ _ _ _ _) 6 mf_wide (mf_size' _ _ _ _ _ _ _ _) ?_))
    ((try simp only [Exit.inBlock, Exit.then]); refine bodyPostM_ret (v := .tuple #[.agg (mfcells noMf none 0), .int .i64 80]) (res_row_t rfl _ w.heap.size 25 _ 6 _ rfl rfl ?_ mf_wide rfl) rfl ?_)
    · exact Blk.setRow_ b4
    · exact md_bad hd.out rfl (by repeat (first | with_reducible exact Below.refl _ _ | with_reducible assumption | with_reducible refine ExtD ?_ | with_reducible refine ExtDN ?_ | with_reducible refine ExtA ?_ | (with_reducible refine ExtR ?_ ?_; (first | omega | (dsimp only; omega) | (simp; done) | (simp; omega))) | (with_reducible refine ExtS ?_ ?_; (first | omega | (dsimp only; omega) | (simp; done) | (simp; omega))) | with_reducible refine Ext.tr ?_ (by with_reducible assumption)))
  subst hat
  by_cases h8 : n2 < 8
  · have hR := HRR.out
    rw [if_pos (.inr (.inr (.inl h8)))] at hR
    have hd := Lib.hid hR
    have u4 : decide ((n2 : Int) < 8) = true := by simp; omega
    have b4 := B4.out
    have hX := HX3.out
    have f2 := F2.out
    clear hR
    go_wp2_with (first
      | (with_reducible refine wpL_store_row rfl 25 (.tmp 2) (.tmp 50) rfl _ 25 _ _ rfl rfl b4 ((mf_size' _ _ _ _ _ _ _ _).trans (mf_size' _ _ _ _ _ _ _ _).symm) (mf_one' _ _ _ _ _ _ _ _) 6 mf_wide (mf_size' _ _ _ _ _ _ _ _) ?_))
    ((try simp only [Exit.inBlock, Exit.then]); refine bodyPostM_ret (v := .tuple #[.agg (mfcells noMf none 0), .int .i64 80]) (res_row_t rfl _ w.heap.size 25 _ 6 _ rfl rfl ?_ mf_wide rfl) rfl ?_)
    · exact Blk.setRow_ b4
    · exact md_bad hd.out rfl (by repeat (first | with_reducible exact Below.refl _ _ | with_reducible assumption | with_reducible refine ExtD ?_ | with_reducible refine ExtDN ?_ | with_reducible refine ExtA ?_ | (with_reducible refine ExtR ?_ ?_; (first | omega | (dsimp only; omega) | (simp; done) | (simp; omega))) | (with_reducible refine ExtS ?_ ?_; (first | omega | (dsimp only; omega) | (simp; done) | (simp; omega))) | with_reducible refine Ext.tr ?_ (by with_reducible assumption)))
  have u4 : decide ((n2 : Int) < 8) = false := by simp; omega
  obtain ⟨hu1, hu2⟩ := HVi.out rfl
  by_cases h40 : n2 % 4 = 0
  case neg =>
    have hR := HRR.out
    rw [if_pos (.inr (.inr (.inr (.inl h40))))] at hR
    have hd := Lib.hid hR
    have b4 := B4.out
    have hX := HX3.out
    have f2 := F2.out
    clear hR
    go_wp2_with (first
      | (with_reducible refine wpL_store_row rfl 25 (.tmp 2) (.tmp 50) rfl _ 25 _ _ rfl rfl b4 ((mf_size' _ _ _ _ _ _ _ _).trans (mf_size' _ _ _ _ _ _ _ _).symm) (mf_one' _ _ _ _ _ _ _ _) 6 mf_wide (mf_size' _ _ _ _ _ _ _ _) ?_))
    ((try simp only [Exit.inBlock, Exit.then]); refine bodyPostM_ret (v := .tuple #[.agg (mfcells noMf none 0), .int .i64 80]) (res_row_t rfl _ w.heap.size 25 _ 6 _ rfl rfl ?_ mf_wide rfl) rfl ?_)
    · exact Blk.setRow_ b4
    · exact md_bad hd.out rfl (by repeat (first | with_reducible exact Below.refl _ _ | with_reducible assumption | with_reducible refine ExtD ?_ | with_reducible refine ExtDN ?_ | with_reducible refine ExtA ?_ | (with_reducible refine ExtR ?_ ?_; (first | omega | (dsimp only; omega) | (simp; done) | (simp; omega))) | (with_reducible refine ExtS ?_ ?_; (first | omega | (dsimp only; omega) | (simp; done) | (simp; omega))) | with_reducible refine Ext.tr ?_ (by with_reducible assumption)))
  have KM := Lib.hid fun W (hx : Ext w3 W) => smax_any A3 n2 c3 us W (RU.out.ext hx) (by omega) (by unfold maxLen; omega)
  by_cases hmx : ∃ u ∈ us, 2199023255552 < u
  · have hR := HRR.out
    rw [if_pos (.inr (.inr (.inr (.inr hmx))))] at hR
    have hd := Lib.hid hR
    have b4 := B4.out
    have hX := HX3.out
    have f2 := F2.out
    obtain ⟨u, hu, hub⟩ := hmx
    clear hR
    go_wp2_with (first
      | (go_at_call 101; (with_reducible refine (KM.out _ (Ext.rfl' _)).mono ?_); rintro e w5 ⟨v, rfl, hx5, hv1, hv2⟩; have hvb := hv2 u hu; have u5 : decide ((2199023255552 : Int) < (v : Int)) = true := (by simp; omega); have b5 := BlkE b4 hx5)
      | (with_reducible refine wpL_store_row rfl 25 (.tmp 2) (.tmp 50) rfl _ 25 _ _ rfl rfl b5 ((mf_size' _ _ _ _ _ _ _ _).trans (mf_size' _ _ _ _ _ _ _ _).symm) (mf_one' _ _ _ _ _ _ _ _) 6 mf_wide (mf_size' _ _ _ _ _ _ _ _) ?_))
    ((try simp only [Exit.inBlock, Exit.then]); refine bodyPostM_ret (v := .tuple #[.agg (mfcells noMf none 0), .int .i64 80]) (res_row_t rfl _ w.heap.size 25 _ 6 _ rfl rfl ?_ mf_wide rfl) rfl ?_)
    · exact Blk.setRow_ b5
    · exact md_bad hd.out rfl (by repeat (first | with_reducible exact Below.refl _ _ | with_reducible assumption | with_reducible refine ExtD ?_ | with_reducible refine ExtDN ?_ | with_reducible refine ExtA ?_ | (with_reducible refine ExtR ?_ ?_; (first | omega | (dsimp only; omega) | (simp; done) | (simp; omega))) | (with_reducible refine ExtS ?_ ?_; (first | omega | (dsimp only; omega) | (simp; done) | (simp; omega))) | with_reducible refine Ext.tr ?_ (by with_reducible assumption)))
  have hno := hmx
  have f2 := F2.out
  go_upto_region 7 with (go_at_call 101; (with_reducible refine (KM.out _ (Ext.rfl' _)).mono ?_); rintro e wr ⟨v, rfl, hx, hv1, hv2⟩; have hvb : v ≤ 2199023255552 := Nat.le_of_not_lt fun h => hno ⟨v, hv1, h⟩; have u5 : decide ((2199023255552 : Int) < (v : Int)) = false := (by simp; omega))
  have hR := HRR.out
  rw [if_neg (by rintro (h | h | h | h | h); exact h rfl; exact h rfl; exact h8 h; exact h h40; exact hno h)] at hR
  have HR2 := Lib.hid hR
  have hsm : ∀ j, us.getD j 0 ≤ 2199023255552 := fun j => by
    by_cases hj : j < us.length
    · rw [List.getD_eq_getElem?_getD, List.getElem?_eq_getElem hj]
      exact Nat.le_of_not_lt fun h => hno ⟨_, List.getElem_mem hj, h⟩
    · rw [List.getD_eq_getElem?_getD, List.getElem?_eq_none (by omega)]; simp
  have HSM := Lib.hid hsm
  have hB6 := BlkE B6.out hx
  have hs1' : wr.cell? ⟨g6, 1, none⟩ = some (.int .i64 (s : Nat)) := hB6.cell 1
  have hg6' : g6 < wr.heap.size := hB6.lt
  have hX := HX3.out.tr hx
  have B4r := Lib.hid (BlkE B4.out hx)
  have RUr := Lib.hid (RU.out.ext hx)
  have HO3r := Lib.hid (own_ext hx HO3.out)
  obtain ⟨b, o, rfl, d0⟩ := at_u64 RUr.out (show 0 < n2 by omega)
  obtain ⟨_, _, hA1, d1⟩ := at_u64 RUr.out (show 1 < n2 by omega)
  injection hA1 with hA1
  injection hA1 with hb ho
  subst hb ho
  obtain ⟨_, _, hA1, d2⟩ := at_u64 RUr.out (show 2 < n2 by omega)
  injection hA1 with hA1
  injection hA1 with hb ho
  subst hb ho
  obtain ⟨_, _, hA1, d3⟩ := at_u64 RUr.out (show 3 < n2 by omega)
  injection hA1 with hA1
  injection hA1 with hb ho
  subst hb ho
  have s0 := hsm 0
  have s1 := hsm 1
  have s2 := hsm 2
  have s3 := hsm 3
  obtain ⟨a0, h0⟩ : ∃ a, a = us.getD 0 0 := ⟨_, rfl⟩
  obtain ⟨a1, h1⟩ : ∃ a, a = us.getD 1 0 := ⟨_, rfl⟩
  obtain ⟨a2, h2⟩ : ∃ a, a = us.getD 2 0 := ⟨_, rfl⟩
  obtain ⟨a3, h3⟩ : ∃ a, a = us.getD 3 0 := ⟨_, rfl⟩
  rw [← h0] at d0 s0
  rw [← h1] at d1 s1
  rw [← h2] at d2 s2
  rw [← h3] at d3 s3
  rw [Nat.add_zero] at d0
  have Hman : Hid (manOf s us = ⟨(s : Int), (a0 : Int), (a1 : Int), (a2 : Int), (a3 : Int), segsOf (us.drop 4)⟩) := Lib.hid (by unfold manOf; rw [h0, h1, h2, h3])
  have c0 : IntKind.i64.wrap (a0 : Int) = (a0 : Int) := wraps_i64 _ (by omega) (by omega)
  have c1w : IntKind.i64.wrap (a1 : Int) = (a1 : Int) := wraps_i64 _ (by omega) (by omega)
  have c2 : IntKind.i64.wrap (a2 : Int) = (a2 : Int) := wraps_i64 _ (by omega) (by omega)
  have c3w : IntKind.i64.wrap (a3 : Int) = (a3 : Int) := wraps_i64 _ (by omega) (by omega)
  have hz4 : w.heap.size ≤ wr.heap.size := hX.size
  have f1A := hs1'
  have f2A := d0
  have f3A := d1
  have f4A := d2
  have f5A := d3
  have t4 : (0 : Int) < (n2 : Int) := by omega
  have HX := Lib.hid hX
  have t4n : 0 < n2 := by omega
  have t4z : n2 ≠ 0 := by omega
  have t5 : (1 : Int) < (n2 : Int) := by omega
  have t6 : (2 : Int) < (n2 : Int) := by omega
  have t7 : (3 : Int) < (n2 : Int) := by omega
  have hn28 : 8 ≤ n2 := by omega
  have Hm4 := Lib.hid h40
  rename_i hm4
  clear hR hno hmx hsm h0 h1 h2 h3 hs1' d0 d1 d2 d3 hB6 hx hm4 f2 h40 hv1 hv2 hvb u5
  go_cut [8] from 10 to 100 (fun v8 wc => ∃ g8, v8 = .pointer (some ⟨g8, 0, none⟩) ∧ wr.heap.size ≤ g8 ∧ Ext wr wc ∧ Blk wc g8 25 #[.int .i64 (s : Nat), .int .i64 (a0 : Nat), .int .i64 (a1 : Nat), .int .i64 (a2 : Nat), .int .i64 (a3 : Nat), .slice none 0 0])
  case first =>
   clear RU HVi HRR HR2 HSM Hman RUr B4r B4 B6 HX3 HX HMb Hn2 KM HO3 HO3r F2
   -- REGION7
   refine wp_region_noPanic ?_
   refine wp_region_held_drew (S := fun w' => Ext wr w') (by kernel_rfl) (ExtD (Ext.rfl' _)) (fun hS => ?_)
   refine takeD (some 51) (i := 0) (oi := ⟨some 51, _, _, _, _, _⟩) (v := .pointer (some ⟨g6, 1, none⟩)) rfl rfl (by kernel_rfl) (by kernel_rfl) (by kernel_rfl) (fun _ _ _ h => h) (Or.inl ⟨by kernel_rfl, fun w hw => by go_simp⟩) hS ?_; (try simp only [Act.put, List.setIfInBounds_toArray, List.set_cons_zero, List.set_cons_succ])
   refine takeD (some 52) (i := 1) (oi := ⟨some 52, _, _, _, _, _⟩) (v := .int .i64 (s : Nat)) rfl rfl (by kernel_rfl) (by kernel_rfl) (by kernel_rfl) (fun _ _ _ h => h) (Or.inl ⟨by kernel_rfl, fun w hw => by have hc := Ext.cell hw f1A; go_simp⟩) hS ?_; (try simp only [Act.put, List.setIfInBounds_toArray, List.set_cons_zero, List.set_cons_succ])
   refine takeD (some 53) (i := 2) (oi := ⟨some 53, _, _, _, _, _⟩) (v := .slice (some ⟨b, o, none⟩) n2 c3) rfl rfl (by kernel_rfl) (by kernel_rfl) (by kernel_rfl) (fun _ _ _ h => h) (Or.inl ⟨by kernel_rfl, fun w hw => by go_simp⟩) hS ?_; (try simp only [Act.put, List.setIfInBounds_toArray, List.set_cons_zero, List.set_cons_succ])
   refine takeD (some 54) (i := 3) (oi := ⟨some 54, _, _, _, _, _⟩) (v := .pointer (some ⟨b, o, none⟩)) rfl rfl (by kernel_rfl) (by kernel_rfl) (by kernel_rfl) (fun _ _ _ h => h) (Or.inl ⟨by kernel_rfl, fun w hw => by go_simp⟩) hS ?_; (try simp only [Act.put, List.setIfInBounds_toArray, List.set_cons_zero, List.set_cons_succ])
   refine takeD (some 55) (i := 4) (oi := ⟨some 55, _, _, _, _, _⟩) (v := .int .u64 (a0 : Nat)) rfl rfl (by kernel_rfl) (by kernel_rfl) (by kernel_rfl) (fun _ _ _ h => h) (Or.inl ⟨by kernel_rfl, fun w hw => by have hc := Ext.cell hw f2A; go_simp⟩) hS ?_; (try simp only [Act.put, List.setIfInBounds_toArray, List.set_cons_zero, List.set_cons_succ])
   refine takeD (some 56) (i := 5) (oi := ⟨some 56, _, _, _, _, _⟩) (v := .int .i64 (a0 : Nat)) rfl rfl (by kernel_rfl) (by kernel_rfl) (by kernel_rfl) (fun _ _ _ h => h) (Or.inl ⟨by kernel_rfl, fun w hw => by go_simp⟩) hS ?_; (try simp only [Act.put, List.setIfInBounds_toArray, List.set_cons_zero, List.set_cons_succ])
   refine takeD (some 57) (i := 6) (oi := ⟨some 57, _, _, _, _, _⟩) (v := .slice (some ⟨b, o, none⟩) n2 c3) rfl rfl (by kernel_rfl) (by kernel_rfl) (by kernel_rfl) (fun _ _ _ h => h) (Or.inl ⟨by kernel_rfl, fun w hw => by go_simp⟩) hS ?_; (try simp only [Act.put, List.setIfInBounds_toArray, List.set_cons_zero, List.set_cons_succ])
   refine takeD (some 58) (i := 7) (oi := ⟨some 58, _, _, _, _, _⟩) (v := .pointer (some ⟨b, o + 1, none⟩)) rfl rfl (by kernel_rfl) (by kernel_rfl) (by kernel_rfl) (fun _ _ _ h => h) (Or.inl ⟨by kernel_rfl, fun w hw => by go_simp⟩) hS ?_; (try simp only [Act.put, List.setIfInBounds_toArray, List.set_cons_zero, List.set_cons_succ])
   refine takeD (some 59) (i := 8) (oi := ⟨some 59, _, _, _, _, _⟩) (v := .int .u64 (a1 : Nat)) rfl rfl (by kernel_rfl) (by kernel_rfl) (by kernel_rfl) (fun _ _ _ h => h) (Or.inl ⟨by kernel_rfl, fun w hw => by have hc := Ext.cell hw f3A; go_simp⟩) hS ?_; (try simp only [Act.put, List.setIfInBounds_toArray, List.set_cons_zero, List.set_cons_succ])
   refine takeD (some 60) (i := 9) (oi := ⟨some 60, _, _, _, _, _⟩) (v := .int .i64 (a1 : Nat)) rfl rfl (by kernel_rfl) (by kernel_rfl) (by kernel_rfl) (fun _ _ _ h => h) (Or.inl ⟨by kernel_rfl, fun w hw => by go_simp⟩) hS ?_; (try simp only [Act.put, List.setIfInBounds_toArray, List.set_cons_zero, List.set_cons_succ])
   refine takeD (some 61) (i := 10) (oi := ⟨some 61, _, _, _, _, _⟩) (v := .slice (some ⟨b, o, none⟩) n2 c3) rfl rfl (by kernel_rfl) (by kernel_rfl) (by kernel_rfl) (fun _ _ _ h => h) (Or.inl ⟨by kernel_rfl, fun w hw => by go_simp⟩) hS ?_; (try simp only [Act.put, List.setIfInBounds_toArray, List.set_cons_zero, List.set_cons_succ])
   refine takeD (some 62) (i := 11) (oi := ⟨some 62, _, _, _, _, _⟩) (v := .pointer (some ⟨b, o + 2, none⟩)) rfl rfl (by kernel_rfl) (by kernel_rfl) (by kernel_rfl) (fun _ _ _ h => h) (Or.inl ⟨by kernel_rfl, fun w hw => by go_simp⟩) hS ?_; (try simp only [Act.put, List.setIfInBounds_toArray, List.set_cons_zero, List.set_cons_succ])
   refine takeD (some 63) (i := 12) (oi := ⟨some 63, _, _, _, _, _⟩) (v := .int .u64 (a2 : Nat)) rfl rfl (by kernel_rfl) (by kernel_rfl) (by kernel_rfl) (fun _ _ _ h => h) (Or.inl ⟨by kernel_rfl, fun w hw => by have hc := Ext.cell hw f4A; go_simp⟩) hS ?_; (try simp only [Act.put, List.setIfInBounds_toArray, List.set_cons_zero, List.set_cons_succ])
   refine takeD (some 64) (i := 13) (oi := ⟨some 64, _, _, _, _, _⟩) (v := .int .i64 (a2 : Nat)) rfl rfl (by kernel_rfl) (by kernel_rfl) (by kernel_rfl) (fun _ _ _ h => h) (Or.inl ⟨by kernel_rfl, fun w hw => by go_simp⟩) hS ?_; (try simp only [Act.put, List.setIfInBounds_toArray, List.set_cons_zero, List.set_cons_succ])
   refine takeD (some 65) (i := 14) (oi := ⟨some 65, _, _, _, _, _⟩) (v := .slice (some ⟨b, o, none⟩) n2 c3) rfl rfl (by kernel_rfl) (by kernel_rfl) (by kernel_rfl) (fun _ _ _ h => h) (Or.inl ⟨by kernel_rfl, fun w hw => by go_simp⟩) hS ?_; (try simp only [Act.put, List.setIfInBounds_toArray, List.set_cons_zero, List.set_cons_succ])
   refine takeD (some 66) (i := 15) (oi := ⟨some 66, _, _, _, _, _⟩) (v := .pointer (some ⟨b, o + 3, none⟩)) rfl rfl (by kernel_rfl) (by kernel_rfl) (by kernel_rfl) (fun _ _ _ h => h) (Or.inl ⟨by kernel_rfl, fun w hw => by go_simp⟩) hS ?_; (try simp only [Act.put, List.setIfInBounds_toArray, List.set_cons_zero, List.set_cons_succ])
   refine takeD (some 67) (i := 16) (oi := ⟨some 67, _, _, _, _, _⟩) (v := .int .u64 (a3 : Nat)) rfl rfl (by kernel_rfl) (by kernel_rfl) (by kernel_rfl) (fun _ _ _ h => h) (Or.inl ⟨by kernel_rfl, fun w hw => by have hc := Ext.cell hw f5A; go_simp⟩) hS ?_; (try simp only [Act.put, List.setIfInBounds_toArray, List.set_cons_zero, List.set_cons_succ])
   refine takeD (some 68) (i := 17) (oi := ⟨some 68, _, _, _, _, _⟩) (v := .int .i64 (a3 : Nat)) rfl rfl (by kernel_rfl) (by kernel_rfl) (by kernel_rfl) (fun _ _ _ h => h) (Or.inl ⟨by kernel_rfl, fun w hw => by go_simp⟩) hS ?_; (try simp only [Act.put, List.setIfInBounds_toArray, List.set_cons_zero, List.set_cons_succ])
   refine takeD (some 69) (i := 18) (oi := ⟨some 69, _, _, _, _, _⟩) (v := .agg #[.int .i64 (s : Nat), .int .i64 (a0 : Nat), .int .i64 (a1 : Nat), .int .i64 (a2 : Nat), .int .i64 (a3 : Nat), .slice none 0 0]) rfl rfl (by kernel_rfl) (by kernel_rfl) (by kernel_rfl) (fun _ _ _ h => h) (Or.inl ⟨by kernel_rfl, fun w hw => by go_simp⟩) hS ?_; (try simp only [Act.put, List.setIfInBounds_toArray, List.set_cons_zero, List.set_cons_succ])
   refine wpAnyH_ready (rs := [19]) (by kernel_rfl) (by simp) (AllReadyH.cons (o := ⟨some 8, _, _, _, _, _⟩) rfl (fun K hK => ?_) AllReadyH.nil)
   refine step_alloc rfl (some 8) rfl 25 rfl _ alloc_mf ?_; intro g8 w5 hg8 hx5 bn; have hgn := Nat.le_trans (Below.size hS) hg8; refine hK.out _ _ (Ext.tr hS hx5) ?_; intro hS; (try simp only [Act.put, List.setIfInBounds_toArray, List.set_cons_zero, List.set_cons_succ])
   refine wpAnyH_ready (rs := [20]) (by kernel_rfl) (by simp) (AllReadyH.cons (o := ⟨none, _, _, _, _, _⟩) rfl (fun K hK => ?_) AllReadyH.nil)
   refine step_store rfl none rfl 25 (.tmp 8) (.tmp 69) rfl g8 25 #[.int .i64 0, .int .i64 0, .int .i64 0, .int .i64 0, .int .i64 0, .slice none 0 0] #[.int .i64 (s : Nat), .int .i64 (a0 : Nat), .int .i64 (a1 : Nat), .int .i64 (a2 : Nat), .int .i64 (a3 : Nat), .slice none 0 0] rfl rfl bn rfl (mf_one' _ _ _ _ _ _ _ _) 6 mf_wide rfl ?_; intro w6 c14 hkeep hext; refine hK.out _ _ (hext _ hgn hS) ?_; intro hS; clear hkeep hext hK bn; (try simp only [Act.put, List.setIfInBounds_toArray, List.set_cons_zero, List.set_cons_succ])
   refine wpAnyH_done (by kernel_rfl) ?_ _
   -- END7
   refine NoPanic.normal ?_
   go_wp2_with fail
   go_meet
   case rel => exact ⟨g8, rfl, hgn, hS, c14⟩
  case rest =>
    obtain ⟨g8, rfl, hg8, hxc, b8⟩ := hcut
    obtain ⟨W0, hW0⟩ : ∃ W0, W0 = wr := ⟨_, rfl⟩
    rw [← hW0] at hg8 hxc
    have HRU0 : Hid (Rd W0 (some ⟨b, o, none⟩) n2 (u64s us)) := Lib.hid (by rw [hW0]; exact RUr.out)
    have HX0 : Hid (Ext w W0) := Lib.hid (by rw [hW0]; exact HX.out)
    have HB40 : Hid (Blk W0 w.heap.size 25 #[.int .i64 0, .int .i64 0, .int .i64 0, .int .i64 0, .int .i64 0, .slice none 0 0]) := Lib.hid (by rw [hW0]; exact B4r.out)
    have hcap : n2 ≤ c3 := own_le HO3r.out
    have hz0 : w.heap.size ≤ W0.heap.size := HX0.out.size
    clear hW0 f1A f2A f3A f4A f5A c0 c1w c2 c3w s1 s2 s3 t4 t5 t6 t7 hz4 hg6' hX HX B4r RUr HO3r RU B4 B6 HX3 F2 HO3 KM HVi hg6 hz3 hz2 hg t4n t4z
    obtain ⟨q, hq⟩ : ∃ q, n2 = 4 + 4 * q := ⟨n2 / 4 - 1, by have := Hm4.out; omega⟩
    have hq0 : n2 - 4 = 4 * q := by omega
    have hq1 : q ≤ 256 := by omega
    have sl : ∀ W, (Instr.slice 113 (.slice (some ⟨b, o, none⟩) n2 c3) (some (.int .i64 4)) none none).run Tryz.prog W = .ok (.slice (some ⟨b, o + 4, none⟩) (4 * q) (c3 - 4)) W := slice_u64 b o n2 c3 q hq hn28 hcap
    have HRR3 := Lib.hid hq
    have Hq0 := Lib.hid hq0
    have hcap4 : 4 * q ≤ c3 - 4 := by omega
    clear hq hq0
    go_wp2_with (go_at_call 102; refine (callsIn_wide.1 (chunk_in Fence.wide 6 trivial rfl _ _ _ _)).mono ?_; rintro e w8 ⟨rfl, hw8'⟩; have hw8 := Lib.hid hw8'; clear hw8')
    have hbs : Blk w8 wc.heap.size 113 #[.slice (some ⟨b, o + 4, none⟩) (4 * q) (c3 - 4)] := by rw [hw8.out]; exact BlkA (BlkN rfl)
    have hbn : Blk w8 (wc.heap.size + 1) 3 #[.int .i64 4] := by rw [hw8.out]; exact BlkN (by simp)
    have hx8 : Ext W0 w8 := by rw [hw8.out]; exact ExtA (ExtA hxc)
    have hb8 : Blk w8 g8 25 #[.int .i64 (s : Nat), .int .i64 (a0 : Nat), .int .i64 (a1 : Nat), .int .i64 (a2 : Nat), .int .i64 (a3 : Nat), .slice none 0 0] := by rw [hw8.out]; exact BlkA (BlkA b8)
    have hz8 : W0.heap.size ≤ w8.heap.size := hx8.size
    generalize wc.heap.size + 1 = gn at *
    generalize wc.heap.size = gs at *
    clear hw8 b8 hxc sl
    refine (wpIn_wide (n := 6)).1 ?_
    refine' wpIn_rangeFunc_ownF (n := 6) rfl (by decide) (gf := 146) (lb := #[.pointer (some ⟨gs, 0, none⟩), .pointer (some ⟨gn, 0, none⟩)]) rfl trivial (enters_of Tryz.func146 (by kernel_rfl) rfl)
      (chunk_stops Fence.wide 5 trivial rfl (by decide) gs gn W0.heap.size b (o + 4) q (c3 - 4) (by omega) hcap4 w8 hbs.lt hbn.lt (hbs.cell 0) (hbn.cell 0))
      (fun h k => KpC.trans h k) (kpC_put hz8 hbs.lt hbn.lt) (Below.refl _ _) (fun _ => rfl)
      (McI W0 s a0 a1 a2 a3 g8 gs gn #[.slice (some ⟨b, o + 4, none⟩) (4 * q) (c3 - 4)] #[.int .i64 4] us) (fun _ _ _ => False) (mcI_from hz8) (fun _ _ _ _ _ hs _ _ => hs)
      ⟨none, 0, hx8, hb8, World.ownsRow_nil _ _ _ _, hbs, hbn⟩ _ ?assign ?body ?done ?stop
    case assign =>
      intro l x W K hK
      gi_wp2
      exact hK
    case stop =>
      rintro D c pre W _ _ h _
      exact h.elim
    case body =>
      rintro l pre x W ⟨B, d2, hx2, hbT, ho, hq4, hq5⟩ hlen
      rename World => wq
      refine wpIn_block ?_
      obtain ⟨p, hp⟩ : ∃ p, p = o + 4 + 4 * x.1 := ⟨_, rfl⟩
      have hxq := x.2
      have hqn : n2 = 4 + 4 * q := HRR3.out
      obtain ⟨_, _, hA1, m0⟩ := at_u64 HRU0.out (show 4 + 4 * x.1 < n2 by omega)
      injection hA1 with hA1
      injection hA1 with hb ho'
      subst hb ho'
      obtain ⟨_, _, hA1, m1⟩ := at_u64 HRU0.out (show 4 + 4 * x.1 + 1 < n2 by omega)
      injection hA1 with hA1
      injection hA1 with hb ho'
      subst hb ho'
      obtain ⟨_, _, hA1, m2⟩ := at_u64 HRU0.out (show 4 + 4 * x.1 + 2 < n2 by omega)
      injection hA1 with hA1
      injection hA1 with hb ho'
      subst hb ho'
      obtain ⟨_, _, hA1, m3⟩ := at_u64 HRU0.out (show 4 + 4 * x.1 + 3 < n2 by omega)
      injection hA1 with hA1
      injection hA1 with hb ho'
      subst hb ho'
      rw [show o + (4 + 4 * x.1) = p by omega] at m0
      rw [show o + (4 + 4 * x.1 + 1) = p + 1 by omega] at m1
      rw [show o + (4 + 4 * x.1 + 2) = p + 2 by omega] at m2
      rw [show o + (4 + 4 * x.1 + 3) = p + 3 by omega] at m3
      have z0 := HSM.out (4 + 4 * x.1)
      have z1' := HSM.out (4 + 4 * x.1 + 1)
      have z2' := HSM.out (4 + 4 * x.1 + 2)
      have z3 := HSM.out (4 + 4 * x.1 + 3)
      have HA : Hid (sgAt us x = ⟨(us.getD (4 + 4 * x.1) 0 : Nat), (us.getD (4 + 4 * x.1 + 1) 0 : Nat), (us.getD (4 + 4 * x.1 + 2) 0 : Nat), (us.getD (4 + 4 * x.1 + 3) 0 : Nat)⟩) := Lib.hid rfl
      generalize us.getD (4 + 4 * x.1) 0 = x0 at *
      generalize us.getD (4 + 4 * x.1 + 1) 0 = x1 at *
      generalize us.getD (4 + 4 * x.1 + 2) 0 = x2 at *
      generalize us.getD (4 + 4 * x.1 + 3) 0 = x3 at *
      have cw0 : IntKind.i64.wrap (x0 : Int) = (x0 : Int) := wraps_i64 _ (by omega) (by omega)
      have cw1 : IntKind.i64.wrap (x1 : Int) = (x1 : Int) := wraps_i64 _ (by omega) (by omega)
      have cw2 : IntKind.i64.wrap (x2 : Int) = (x2 : Int) := wraps_i64 _ (by omega) (by omega)
      have cw3 : IntKind.i64.wrap (x3 : Int) = (x3 : Int) := wraps_i64 _ (by omega) (by omega)
      obtain ⟨k2, hk2⟩ : ∃ k, k = pre.length := ⟨_, rfl⟩
      rw [← hk2] at hbT hlen
      have hlp : (pre.map (sgAt us)).length = k2 := by rw [List.length_map, hk2]
      have hap := mown_apart ho hbT
      have bq : wq.cell? ⟨g8, 5, none⟩ = some (.slice B k2 d2) := hbT.cell 5
      have bqA : ∀ ob, (wq.alloc ob).cell? ⟨g8, 5, none⟩ = some (.slice B k2 d2) := fun ob => (BlkA (o := ob) hbT).cell 5
      have Hown2 : Hid (World.ownsRow (wq.drew.alloc (.cells #[.int .i64 (x0 : Nat), .int .i64 (x1 : Nat), .int .i64 (x2 : Nat), .int .i64 (x3 : Nat)] 115)) W0.heap.size 115 4 (.slice B k2 d2) k2 (sgCells (pre.map (sgAt us)))) := Lib.hid (by have := MOwnA (o := .cells #[.int .i64 (x0 : Nat), .int .i64 (x1 : Nat), .int .i64 (x2 : Nat), .int .i64 (x3 : Nat)] 115) (MOwnD ho); unfold OwnSg at this; rwa [hlp] at this)
      have hbT2 : Blk (wq.drew.alloc (.cells #[.int .i64 (x0 : Nat), .int .i64 (x1 : Nat), .int .i64 (x2 : Nat), .int .i64 (x3 : Nat)] 115)) g8 25 _ := BlkA (BlkD hbT)
      have hbL : Blk (wq.drew.alloc (.cells #[.int .i64 (x0 : Nat), .int .i64 (x1 : Nat), .int .i64 (x2 : Nat), .int .i64 (x3 : Nat)] 115)) wq.heap.size 115 #[.int .i64 (x0 : Nat), .int .i64 (x1 : Nat), .int .i64 (x2 : Nat), .int .i64 (x3 : Nat)] := BlkN rfl
      have Hnw : Hid (∀ j u, (#[.int .i64 (x0 : Nat), .int .i64 (x1 : Nat), .int .i64 (x2 : Nat), .int .i64 (x3 : Nat)] : Array Value).toList[j]? = some u → (wq.drew.alloc (.cells #[.int .i64 (x0 : Nat), .int .i64 (x1 : Nat), .int .i64 (x2 : Nat), .int .i64 (x3 : Nat)] 115)).cell? ((⟨wq.heap.size, 0, none⟩ : Addr).add j) = some u) := Lib.hid fun j u hu => by rw [Addr.add_lit, Nat.zero_add, hbL.cell]; simpa using hu
      have hN : W0.heap.size ≤ wq.heap.size := hx2.size
      have H1 : Hid (∀ u ∈ (#[.int .i64 (x0 : Nat), .int .i64 (x1 : Nat), .int .i64 (x2 : Nat), .int .i64 (x3 : Nat)] : Array Value).toList, u.oneCell' = true) := Lib.hid (sg_one ⟨(x0 : Int), (x1 : Int), (x2 : Int), (x3 : Int)⟩)
      have Hbs : Hid (W0.heap.size ≤ (wq.drew.alloc (.cells #[.int .i64 (x0 : Nat), .int .i64 (x1 : Nat), .int .i64 (x2 : Nat), .int .i64 (x3 : Nat)] 115)).heap.size) := Lib.hid (by simp; omega)
      have HEnd : Hid (∀ B3 d3 w7, World.ownsRow w7 W0.heap.size 115 4 (.slice B3 (k2 + 1) d3) (k2 + 1) (sgCells (pre.map (sgAt us)) ++ (#[.int .i64 (x0 : Nat), .int .i64 (x1 : Nat), .int .i64 (x2 : Nat), .int .i64 (x3 : Nat)] : Array Value).toList) →
          World.grownBy (wq.drew.alloc (.cells #[.int .i64 (x0 : Nat), .int .i64 (x1 : Nat), .int .i64 (x2 : Nat), .int .i64 (x3 : Nat)] 115)) w7 (Value.slice B k2 d2).ownBlock →
          Blk w7 g8 25 #[.int .i64 (s : Nat), .int .i64 (a0 : Nat), .int .i64 (a1 : Nat), .int .i64 (a2 : Nat), .int .i64 (a3 : Nat), .slice B k2 d2] → Ext W0 (w7.setCell ⟨g8, 5, none⟩ (.slice B3 (k2 + 1) d3)) →
          KeepsOthers wq (w7.setCell ⟨g8, 5, none⟩ (.slice B3 (k2 + 1) d3)) ∧ KpC W0.heap.size gs gn wq (w7.setCell ⟨g8, 5, none⟩ (.slice B3 (k2 + 1) d3)) ∧ McI W0 s a0 a1 a2 a3 g8 gs gn #[.slice (some ⟨b, o + 4, none⟩) (4 * q) (c3 - 4)] #[.int .i64 4] us (pre ++ [x]) (w7.setCell ⟨g8, 5, none⟩ (.slice B3 (k2 + 1) d3))) := Lib.hid (by
        subst hk2
        intro B3 d3 w7 h1 h2 h3 h4
        exact mc_round (by rw [HA.out]; rfl) (by omega) hx2 hbT ho hq4 hq5 h1 h2 h3 h4)
      rw [← hp]
      clear hp hqn hbL ho hq4 hq5 hk2 hlp HA HRU0 HX0 HB40 HSM HR2 HRR Hman HRR3 Hq0 Hn2 HMb hbs hbn hb8 Hm4
      -- REGION10
      refine region_round_held (S := fun w' => Ext W0 w') (by kernel_rfl) (by kernel_rfl) (fun ⟨_, _, h⟩ => h) (ExtD hx2) (fun hS => ?_)
      refine takeD (some 74) (i := 0) (oi := ⟨some 74, _, _, _, _, _⟩) (v := .pointer (some ⟨g8, 5, none⟩)) rfl rfl (by kernel_rfl) (by kernel_rfl) (by kernel_rfl) (fun _ _ _ h => h) (Or.inl ⟨by kernel_rfl, fun w hw => by go_simp⟩) hS ?_; (try simp only [Act.put, List.setIfInBounds_toArray, List.set_cons_zero, List.set_cons_succ])
      refine takeD (some 76) (i := 2) (oi := ⟨some 76, _, _, _, _, _⟩) (v := .slice (some ⟨b, p, none⟩) 4 4) rfl rfl (by kernel_rfl) (by kernel_rfl) (by kernel_rfl) (fun _ _ _ h => h) (Or.inl ⟨by kernel_rfl, fun w hw => by go_simp⟩) hS ?_; (try simp only [Act.put, List.setIfInBounds_toArray, List.set_cons_zero, List.set_cons_succ])
      refine takeD (some 77) (i := 3) (oi := ⟨some 77, _, _, _, _, _⟩) (v := .pointer (some ⟨b, p, none⟩)) rfl rfl (by kernel_rfl) (by kernel_rfl) (by kernel_rfl) (fun _ _ _ h => h) (Or.inl ⟨by kernel_rfl, fun w hw => by go_simp⟩) hS ?_; (try simp only [Act.put, List.setIfInBounds_toArray, List.set_cons_zero, List.set_cons_succ])
      refine takeD (some 78) (i := 4) (oi := ⟨some 78, _, _, _, _, _⟩) (v := .int .u64 (x0 : Nat)) rfl rfl (by kernel_rfl) (by kernel_rfl) (by kernel_rfl) (fun _ _ _ h => h) (Or.inl ⟨by kernel_rfl, fun w hw => by have hc := Ext.cell hw m0; go_simp⟩) hS ?_; (try simp only [Act.put, List.setIfInBounds_toArray, List.set_cons_zero, List.set_cons_succ])
      refine takeD (some 79) (i := 5) (oi := ⟨some 79, _, _, _, _, _⟩) (v := .int .i64 (x0 : Nat)) rfl rfl (by kernel_rfl) (by kernel_rfl) (by kernel_rfl) (fun _ _ _ h => h) (Or.inl ⟨by kernel_rfl, fun w hw => by go_simp⟩) hS ?_; (try simp only [Act.put, List.setIfInBounds_toArray, List.set_cons_zero, List.set_cons_succ])
      refine takeD (some 80) (i := 6) (oi := ⟨some 80, _, _, _, _, _⟩) (v := .slice (some ⟨b, p, none⟩) 4 4) rfl rfl (by kernel_rfl) (by kernel_rfl) (by kernel_rfl) (fun _ _ _ h => h) (Or.inl ⟨by kernel_rfl, fun w hw => by go_simp⟩) hS ?_; (try simp only [Act.put, List.setIfInBounds_toArray, List.set_cons_zero, List.set_cons_succ])
      refine takeD (some 81) (i := 7) (oi := ⟨some 81, _, _, _, _, _⟩) (v := .pointer (some ⟨b, p + 1, none⟩)) rfl rfl (by kernel_rfl) (by kernel_rfl) (by kernel_rfl) (fun _ _ _ h => h) (Or.inl ⟨by kernel_rfl, fun w hw => by go_simp⟩) hS ?_; (try simp only [Act.put, List.setIfInBounds_toArray, List.set_cons_zero, List.set_cons_succ])
      refine takeD (some 82) (i := 8) (oi := ⟨some 82, _, _, _, _, _⟩) (v := .int .u64 (x1 : Nat)) rfl rfl (by kernel_rfl) (by kernel_rfl) (by kernel_rfl) (fun _ _ _ h => h) (Or.inl ⟨by kernel_rfl, fun w hw => by have hc := Ext.cell hw m1; go_simp⟩) hS ?_; (try simp only [Act.put, List.setIfInBounds_toArray, List.set_cons_zero, List.set_cons_succ])
      refine takeD (some 83) (i := 9) (oi := ⟨some 83, _, _, _, _, _⟩) (v := .int .i64 (x1 : Nat)) rfl rfl (by kernel_rfl) (by kernel_rfl) (by kernel_rfl) (fun _ _ _ h => h) (Or.inl ⟨by kernel_rfl, fun w hw => by go_simp⟩) hS ?_; (try simp only [Act.put, List.setIfInBounds_toArray, List.set_cons_zero, List.set_cons_succ])
      refine takeD (some 84) (i := 10) (oi := ⟨some 84, _, _, _, _, _⟩) (v := .slice (some ⟨b, p, none⟩) 4 4) rfl rfl (by kernel_rfl) (by kernel_rfl) (by kernel_rfl) (fun _ _ _ h => h) (Or.inl ⟨by kernel_rfl, fun w hw => by go_simp⟩) hS ?_; (try simp only [Act.put, List.setIfInBounds_toArray, List.set_cons_zero, List.set_cons_succ])
      refine takeD (some 85) (i := 11) (oi := ⟨some 85, _, _, _, _, _⟩) (v := .pointer (some ⟨b, p + 2, none⟩)) rfl rfl (by kernel_rfl) (by kernel_rfl) (by kernel_rfl) (fun _ _ _ h => h) (Or.inl ⟨by kernel_rfl, fun w hw => by go_simp⟩) hS ?_; (try simp only [Act.put, List.setIfInBounds_toArray, List.set_cons_zero, List.set_cons_succ])
      refine takeD (some 86) (i := 12) (oi := ⟨some 86, _, _, _, _, _⟩) (v := .int .u64 (x2 : Nat)) rfl rfl (by kernel_rfl) (by kernel_rfl) (by kernel_rfl) (fun _ _ _ h => h) (Or.inl ⟨by kernel_rfl, fun w hw => by have hc := Ext.cell hw m2; go_simp⟩) hS ?_; (try simp only [Act.put, List.setIfInBounds_toArray, List.set_cons_zero, List.set_cons_succ])
      refine takeD (some 87) (i := 13) (oi := ⟨some 87, _, _, _, _, _⟩) (v := .int .i64 (x2 : Nat)) rfl rfl (by kernel_rfl) (by kernel_rfl) (by kernel_rfl) (fun _ _ _ h => h) (Or.inl ⟨by kernel_rfl, fun w hw => by go_simp⟩) hS ?_; (try simp only [Act.put, List.setIfInBounds_toArray, List.set_cons_zero, List.set_cons_succ])
      refine takeD (some 88) (i := 14) (oi := ⟨some 88, _, _, _, _, _⟩) (v := .slice (some ⟨b, p, none⟩) 4 4) rfl rfl (by kernel_rfl) (by kernel_rfl) (by kernel_rfl) (fun _ _ _ h => h) (Or.inl ⟨by kernel_rfl, fun w hw => by go_simp⟩) hS ?_; (try simp only [Act.put, List.setIfInBounds_toArray, List.set_cons_zero, List.set_cons_succ])
      refine takeD (some 89) (i := 15) (oi := ⟨some 89, _, _, _, _, _⟩) (v := .pointer (some ⟨b, p + 3, none⟩)) rfl rfl (by kernel_rfl) (by kernel_rfl) (by kernel_rfl) (fun _ _ _ h => h) (Or.inl ⟨by kernel_rfl, fun w hw => by go_simp⟩) hS ?_; (try simp only [Act.put, List.setIfInBounds_toArray, List.set_cons_zero, List.set_cons_succ])
      refine takeD (some 90) (i := 16) (oi := ⟨some 90, _, _, _, _, _⟩) (v := .int .u64 (x3 : Nat)) rfl rfl (by kernel_rfl) (by kernel_rfl) (by kernel_rfl) (fun _ _ _ h => h) (Or.inl ⟨by kernel_rfl, fun w hw => by have hc := Ext.cell hw m3; go_simp⟩) hS ?_; (try simp only [Act.put, List.setIfInBounds_toArray, List.set_cons_zero, List.set_cons_succ])
      refine takeD (some 91) (i := 17) (oi := ⟨some 91, _, _, _, _, _⟩) (v := .int .i64 (x3 : Nat)) rfl rfl (by kernel_rfl) (by kernel_rfl) (by kernel_rfl) (fun _ _ _ h => h) (Or.inl ⟨by kernel_rfl, fun w hw => by go_simp⟩) hS ?_; (try simp only [Act.put, List.setIfInBounds_toArray, List.set_cons_zero, List.set_cons_succ])
      refine takeD (some 92) (i := 18) (oi := ⟨some 92, _, _, _, _, _⟩) (v := .agg #[.int .i64 (x0 : Nat), .int .i64 (x1 : Nat), .int .i64 (x2 : Nat), .int .i64 (x3 : Nat)]) rfl rfl (by kernel_rfl) (by kernel_rfl) (by kernel_rfl) (fun _ _ _ h => h) (Or.inl ⟨by kernel_rfl, fun w hw => by go_simp⟩) hS ?_; (try simp only [Act.put, List.setIfInBounds_toArray, List.set_cons_zero, List.set_cons_succ])
      refine wpAnyH_ready (rs := [1, 19]) (by kernel_rfl) (by simp) (AllReadyH.cons (o := ⟨some 75, _, _, _, _, _⟩) rfl (fun K hK => ?_) (AllReadyH.cons (o := ⟨some 93, _, _, _, _, _⟩) rfl (fun K hK => ?_) AllReadyH.nil))
      · (refine step_run rfl (some 75) rfl (.slice B k2 d2) wq.drew (by have hc := bq; go_simp) ?_; refine hK.out _ _ hS ?_; intro hS; (try simp only [Act.put, List.setIfInBounds_toArray, List.set_cons_zero, List.set_cons_succ]))
        refine wpAnyH_ready (rs := [19]) (by kernel_rfl) (by simp) (AllReadyH.cons (o := ⟨some 93, _, _, _, _, _⟩) rfl (fun K hK => ?_) AllReadyH.nil)
        (refine step_run rfl (some 93) rfl (.slice (some ⟨wq.heap.size, 0, none⟩) 1 1) (wq.drew.alloc (.cells #[.int .i64 (x0 : Nat), .int .i64 (x1 : Nat), .int .i64 (x2 : Nat), .int .i64 (x3 : Nat)] 115)) (by kernel_rfl) ?_; refine hK.out _ _ (ExtA hS) ?_; intro hS; (try simp only [Act.put, List.setIfInBounds_toArray, List.set_cons_zero, List.set_cons_succ]))
        refine wpAnyH_ready (rs := [20]) (by kernel_rfl) (by simp) (AllReadyH.cons (o := ⟨some 94, _, _, _, _, _⟩) rfl (fun K hK => ?_) AllReadyH.nil)
        refine mstep_append_own rfl (.tmp 75) (.tmp 93) 23 rfl W0.heap.size 115 _ 4 32 Tryz.underlying23 el_sg (.slice B k2 d2) k2 (sgCells (pre.map (sgAt us))) rfl Hown2.out ⟨wq.heap.size, 0, none⟩ 1 1 #[.int .i64 (x0 : Nat), .int .i64 (x1 : Nat), .int .i64 (x2 : Nat), .int .i64 (x3 : Nat)].toList rfl rfl Hnw.out H1.out (by simp only [maxLen]; omega) (by omega) Hbs.out ?_; intro v' w7 hown' hg'; obtain ⟨B3, d3, rfl⟩ := own_slice hown'; have q := BlkG hbT2 hg' (fun h => hap _ _ h.symm); have z1 := q.cell 5; have z2 := q.frozen 5; have hX7 : Ext W0 w7 := Ext.grown hS hg' (fun r hr2 => (World.ownsRow.lt Hown2.out r hr2).1); refine hK.out _ _ hX7 ?_; intro hS; (try simp only [Act.put, List.setIfInBounds_toArray, List.set_cons_zero, List.set_cons_succ])
        refine takeD (some 95) (i := 21) (oi := ⟨some 95, _, _, _, _, _⟩) (v := .pointer (some ⟨g8, 5, none⟩)) rfl rfl (by kernel_rfl) (by kernel_rfl) (by kernel_rfl) (fun _ _ _ h => h) (Or.inl ⟨by kernel_rfl, fun w hw => by go_simp⟩) hS ?_; (try simp only [Act.put, List.setIfInBounds_toArray, List.set_cons_zero, List.set_cons_succ])
        refine wpAnyH_ready (rs := [22]) (by kernel_rfl) (by simp) (AllReadyH.cons (o := ⟨none, _, _, _, _, _⟩) rfl (fun K hK => ?_) AllReadyH.nil)
        refine step_store1 rfl none rfl (.tmp 95) (.tmp 94) rfl rfl rfl z1 z2 ?_; refine hK.out _ _ (ExtS (by dsimp only; omega) hX7) ?_; intro hS; clear hK; (try simp only [Act.put, List.setIfInBounds_toArray, List.set_cons_zero, List.set_cons_succ])
        refine wpAnyH_done (by kernel_rfl) ?_ _
        exact HEnd.out _ _ _ hown' hg' q hS
      · (refine step_run rfl (some 93) rfl (.slice (some ⟨wq.heap.size, 0, none⟩) 1 1) (wq.drew.alloc (.cells #[.int .i64 (x0 : Nat), .int .i64 (x1 : Nat), .int .i64 (x2 : Nat), .int .i64 (x3 : Nat)] 115)) (by kernel_rfl) ?_; refine hK.out _ _ (ExtA hS) ?_; intro hS; (try simp only [Act.put, List.setIfInBounds_toArray, List.set_cons_zero, List.set_cons_succ]))
        refine wpAnyH_ready (rs := [1]) (by kernel_rfl) (by simp) (AllReadyH.cons (o := ⟨some 75, _, _, _, _, _⟩) rfl (fun K hK => ?_) AllReadyH.nil)
        (refine step_run rfl (some 75) rfl (.slice B k2 d2) (wq.drew.alloc (.cells #[.int .i64 (x0 : Nat), .int .i64 (x1 : Nat), .int .i64 (x2 : Nat), .int .i64 (x3 : Nat)] 115)) (by have hc := bqA; go_simp) ?_; refine hK.out _ _ hS ?_; intro hS; (try simp only [Act.put, List.setIfInBounds_toArray, List.set_cons_zero, List.set_cons_succ]))
        refine wpAnyH_ready (rs := [20]) (by kernel_rfl) (by simp) (AllReadyH.cons (o := ⟨some 94, _, _, _, _, _⟩) rfl (fun K hK => ?_) AllReadyH.nil)
        refine mstep_append_own rfl (.tmp 75) (.tmp 93) 23 rfl W0.heap.size 115 _ 4 32 Tryz.underlying23 el_sg (.slice B k2 d2) k2 (sgCells (pre.map (sgAt us))) rfl Hown2.out ⟨wq.heap.size, 0, none⟩ 1 1 #[.int .i64 (x0 : Nat), .int .i64 (x1 : Nat), .int .i64 (x2 : Nat), .int .i64 (x3 : Nat)].toList rfl rfl Hnw.out H1.out (by simp only [maxLen]; omega) (by omega) Hbs.out ?_; intro v' w7 hown' hg'; obtain ⟨B3, d3, rfl⟩ := own_slice hown'; have q := BlkG hbT2 hg' (fun h => hap _ _ h.symm); have z1 := q.cell 5; have z2 := q.frozen 5; have hX7 : Ext W0 w7 := Ext.grown hS hg' (fun r hr2 => (World.ownsRow.lt Hown2.out r hr2).1); refine hK.out _ _ hX7 ?_; intro hS; (try simp only [Act.put, List.setIfInBounds_toArray, List.set_cons_zero, List.set_cons_succ])
        refine takeD (some 95) (i := 21) (oi := ⟨some 95, _, _, _, _, _⟩) (v := .pointer (some ⟨g8, 5, none⟩)) rfl rfl (by kernel_rfl) (by kernel_rfl) (by kernel_rfl) (fun _ _ _ h => h) (Or.inl ⟨by kernel_rfl, fun w hw => by go_simp⟩) hS ?_; (try simp only [Act.put, List.setIfInBounds_toArray, List.set_cons_zero, List.set_cons_succ])
        refine wpAnyH_ready (rs := [22]) (by kernel_rfl) (by simp) (AllReadyH.cons (o := ⟨none, _, _, _, _, _⟩) rfl (fun K hK => ?_) AllReadyH.nil)
        refine step_store1 rfl none rfl (.tmp 95) (.tmp 94) rfl rfl rfl z1 z2 ?_; refine hK.out _ _ (ExtS (by dsimp only; omega) hX7) ?_; intro hS; clear hK; (try simp only [Act.put, List.setIfInBounds_toArray, List.set_cons_zero, List.set_cons_succ])
        refine wpAnyH_done (by kernel_rfl) ?_ _
        exact HEnd.out _ _ _ hown' hg' q hS
      -- END10
    case done =>
      rintro D ys W hD rfl ⟨B, d2, hx2, hbT, ho, -, -⟩ hK
      rename World => wq
      have hmap := chs_segs (us := us) (q := q) (by rw [← Hn2.out]; exact HRR3.out)
      have hlS : (segsOf (us.drop 4)).length = (chs q q).length := by rw [← hmap, List.length_map]
      have hlq : (chs q q).length = q := chs_length (Nat.le_refl _)
      rw [hmap] at ho
      rw [← hlS] at hbT
      rw [hlq] at hlS
      have hman := Hman.out
      have hR := HR2.out
      rw [hman] at hR
      generalize segsOf (us.drop 4) = SS at *
      have hb4 := BlkE HB40.out hx2
      have hX := HX0.out.tr hx2
      have HO := Lib.hid ho
      have KVd := Lib.hid fun W (h : SgRd W B SS) => mvalid_any ⟨(s : Int), (a0 : Int), (a1 : Int), (a2 : Int), (a3 : Int), SS⟩ B d2 W h (by dsimp only; omega) (by unfold MI64; dsimp only; omega)
      unfold mfcells at KVd
      dsimp only at KVd
      have hDw : w.heap.size ≤ D := by omega
      have HK := Lib.hid hK
      clear hK hmap hlS hlq ho hman Hman HR2 HRR HRR3 HSM Hn2 HMb hbs hbn hb8 Hm4 Hq0
      by_cases hv : manB ⟨(s : Int), (a0 : Int), (a1 : Int), (a2 : Int), (a3 : Int), SS⟩ = true
      · rw [if_pos hv] at hR
        have hd := Lib.hid hR
        rw [hv] at KVd
        clear hR hv
        go_wp2_with (first
          | (with_reducible refine wpL_load_row rfl 25 (.tmp 8) rfl _ 25 _ 6 rfl hbT mf_wide (mf_size' _ _ _ _ _ _ _ _) ?_)
          | (go_at_call 47; (with_reducible refine (KVd.out _ HO.out.rd).mono ?_); rintro e w9 ⟨rfl, hx9⟩; have b4 := BlkE hb4 hx9; have b9w := BlkE hbT hx9)
          | (with_reducible refine wpL_load_row rfl 25 (.tmp 8) rfl _ 25 _ 6 rfl b9w mf_wide (mf_size' _ _ _ _ _ _ _ _) ?_)
          | (with_reducible refine wpL_store_row rfl 25 (.tmp 2) (.tmp 100) rfl _ 25 _ _ rfl rfl b4 ((mf_size' _ _ _ _ _ _ _ _).trans (mf_size' _ _ _ _ _ _ _ _).symm) (mf_one' _ _ _ _ _ _ _ _) 6 mf_wide (mf_size' _ _ _ _ _ _ _ _) ?_))
        have HK9 := Lib.hid (dfR (ds := #[.int .i64 (s : Nat), .int .i64 (a0 : Nat), .int .i64 (a1 : Nat), .int .i64 (a2 : Nat), .int .i64 (a3 : Nat), .slice B SS.length d2]) b4 (dfE hx9 HK.out) rfl)
        (try simp only [Exit.inBlock, Exit.then]); refine bodyPostM_ret1 (D := D) (v := .tuple #[.agg (mfcells ⟨(s : Int), (a0 : Int), (a1 : Int), (a2 : Int), (a3 : Int), SS⟩ B d2), .int .i64 0]) rfl HK9.out (res_row_t rfl _ w.heap.size 25 _ 6 _ rfl rfl ?_ mf_wide rfl) ?_
        · exact blkP (Blk.setRow_ b4) HK9.out rfl
        · rw [hd.out]
          have ho9 : OwnSg w9 W0.heap.size B SS d2 := own_ext hx9 HO.out
          exact ⟨B, d2, rfl, extP (by repeat (first | with_reducible exact Below.refl _ _ | with_reducible assumption | with_reducible refine ExtD ?_ | with_reducible refine ExtDN ?_ | with_reducible refine ExtA ?_ | (with_reducible refine ExtR ?_ ?_; (first | omega | (dsimp only; omega) | (simp; done) | (simp; omega))) | (with_reducible refine ExtS ?_ ?_; (first | omega | (dsimp only; omega) | (simp; done) | (simp; omega))) | with_reducible refine Ext.tr ?_ (by with_reducible assumption))) hDw, ownsRow_putObj (sown_less (MOwnRw (mown_apart ho9 b4) ho9) hz0) _ HK9.out rfl⟩
      · rw [if_neg hv] at hR
        have hd := Lib.hid hR
        rw [Bool.eq_false_iff.2 hv] at KVd
        clear hR hv
        go_wp2_with (first
          | (with_reducible refine wpL_load_row rfl 25 (.tmp 8) rfl _ 25 _ 6 rfl hbT mf_wide (mf_size' _ _ _ _ _ _ _ _) ?_)
          | (go_at_call 47; (with_reducible refine (KVd.out _ HO.out.rd).mono ?_); rintro e w9 ⟨rfl, hx9⟩; have b4 := BlkE hb4 hx9)
          | (with_reducible refine wpL_store_row rfl 25 (.tmp 2) (.tmp 99) rfl _ 25 _ _ rfl rfl b4 ((mf_size' _ _ _ _ _ _ _ _).trans (mf_size' _ _ _ _ _ _ _ _).symm) (mf_one' _ _ _ _ _ _ _ _) 6 mf_wide (mf_size' _ _ _ _ _ _ _ _) ?_))
        have HK9 := Lib.hid (dfR (ds := #[.int .i64 0, .int .i64 0, .int .i64 0, .int .i64 0, .int .i64 0, .slice none 0 0]) b4 (dfE hx9 HK.out) rfl)
        (try simp only [Exit.inBlock, Exit.then]); refine bodyPostM_ret1 (D := D) (v := .tuple #[.agg (mfcells noMf none 0), .int .i64 80]) rfl HK9.out (res_row_t rfl _ w.heap.size 25 _ 6 _ rfl rfl ?_ mf_wide rfl) ?_
        · exact blkP (Blk.setRow_ b4) HK9.out rfl
        · exact md_bad hd.out rfl (extP (by repeat (first | with_reducible exact Below.refl _ _ | with_reducible assumption | with_reducible refine ExtD ?_ | with_reducible refine ExtDN ?_ | with_reducible refine ExtA ?_ | (with_reducible refine ExtR ?_ ?_; (first | omega | (dsimp only; omega) | (simp; done) | (simp; omega))) | (with_reducible refine ExtS ?_ ?_; (first | omega | (dsimp only; omega) | (simp; done) | (simp; omega))) | with_reducible refine Ext.tr ?_ (by with_reducible assumption))) hDw)
end Go.Proofs.YtjajbbgebblalaaGreatDoor
