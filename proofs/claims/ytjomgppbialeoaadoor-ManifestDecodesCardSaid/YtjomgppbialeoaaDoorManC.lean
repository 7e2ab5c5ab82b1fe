/-
  The walks of the reference's Copy of manifests, and of its Same at equal ones. (Written by wip/tools/gen_mcopy.py out of the texts on states.)
-/
import Derived.Test.YtjomgppbialeoaaDoorManM
import Derived.Shelf.RegionOpenPlain
namespace Go.Proofs.YtjomgppbialeoaaDoor
open Go.RowKit
set_option linter.unusedVariables false
set_option linter.unusedSimpArgs false
theorem sgCells_one1 (l : Sg) : sgCells [l] = (sgcells l).toList := by simp [sgCells]
theorem mown_of_cells {w : World} {base g c : Nat} {ls : List Sg} {cur : Array Value} (hg : base ≤ g) (hb : Blk w g 43 cur) (hc : ls.length ≤ c) (hm : c ≤ maxLen) (hs : cur.size = c * 4) (h : cur.toList.take (ls.length * 4) = sgCells ls) : OwnSg w base (some ⟨g, 0, none⟩) ls c :=
  ⟨sgCells_len ls, .inr ⟨g, c, cur, rfl, hg, hb, hc, hm, hs, h⟩⟩
theorem mown_apart {w : World} {base g c : Nat} {A : Option Addr} {ls : List Sg} {cs : Array Value} (h : OwnSg w base A ls c) (hb : Blk w g 24 cs) : SNotOwn A g := by
  intro n c2
  rcases h.2 with ⟨h1, h2⟩ | ⟨g', cap, cur, h1, h2, h3, _⟩
  · injection h1 with h3 h4 h5
    subst h3
    intro hc; cases hc
  · injection h1 with h5 h6 h7
    subst h5
    intro he
    obtain rfl : g' = g := Option.some.inj he
    have h4 : w.heap[g']? = some (.cells cur 43) := h3
    have h5 : w.heap[g']? = some (.cells cs 24) := hb
    rw [h5] at h4
    cases h4
theorem MOwnSt {w : World} {base g c i : Nat} {u : Value} {A : Option Addr} {ls : List Sg} (hne : SNotOwn A g) (h : OwnSg w base A ls c) : OwnSg (w.setCell ⟨g, i, none⟩ u) base A ls c :=
  World.ownsRow.kept h (grown_set (World.grownBy.refl w (some g)) u) (.inr (hne _ _))
theorem MOwnA {w : World} {base c : Nat} {o : Obj} {A : Option Addr} {ls : List Sg} (h : OwnSg w base A ls c) : OwnSg (w.alloc o) base A ls c := World.ownsRow.alloc h o
theorem MOwnD {w : World} {base c : Nat} {A : Option Addr} {ls : List Sg} (h : OwnSg w base A ls c) : OwnSg w.drew base A ls c := h
theorem mf_size' (o s p u t : Int) (A : Option Addr) (n c : Nat) : (#[.int .i64 o, .int .i64 s, .int .i64 p, .int .i64 u, .int .i64 t, .slice A n c] : Array Value).size = 6 := rfl
theorem mf_one' (o s p u t : Int) (A : Option Addr) (n c : Nat) : ∀ v ∈ (#[.int .i64 o, .int .i64 s, .int .i64 p, .int .i64 u, .int .i64 t, .slice A n c] : Array Value).toList, v.oneCell' = true := by
  intro v hv; simp at hv; rcases hv with rfl | rfl | rfl | rfl | rfl | rfl <;> rfl
theorem MGrRow {a w : World} {g : Nat} {ds : Array Value} (h : a.grownBy w (some g)) : a.grownBy (w.setRow g ds) (some g) :=
  ⟨h.os, h.tape, h.output, by simpa [World.setRow] using h.size, fun k hk hne => by
    have := h.block k hk hne
    simp only [World.setRow, Array.getElem?_modify]
    rw [if_neg (by intro hc; exact hne (by rw [hc]))]
    exact this⟩
theorem MOwnRw {w : World} {base g c : Nat} {ds : Array Value} {A : Option Addr} {ls : List Sg} (hne : SNotOwn A g) (h : OwnSg w base A ls c) : OwnSg (w.setRow g ds) base A ls c :=
  World.ownsRow.kept h (MGrRow (World.grownBy.refl w (some g))) (.inr (hne _ _))
theorem mstep_append_own {P : Program} {ops : Array Oper} {o : Oper} {a : Act} {w : World} {K : Act → World → Prop} {Q : Exit → Act → World → Prop} {E : Prop}
    (hg : o.guard = none) (s x : Operand) (t : TypeId) (hop : o.op = Op.call { callee := Callee.builtin Builtin.append, args := #[s, x], argTypes := #[t, t] })
    (base : Nat) (e : TypeId) (z : Value) (size bytes : Nat) (h1 : P.underlying t = some (.slice e)) (he : Elem P e z size bytes)
    (v : Value) (n : Nat) (xs : List Value) (hs : a.eval s = v) (hown : w.ownsRow base e size v n xs)
    (ad : Addr) (m c : Nat) (news : List Value) (hx : a.eval x = .slice (some ad) m c) (hn : news.length = m * size) (hc : ∀ j u, news[j]? = some u → w.cell? (ad.add j) = some u) (h1c : ∀ u ∈ news, u.oneCell' = true)
    (b1 : n + m ≤ maxLen) (b2 : (n + m) * bytes ≤ 140737488355328) (hbase : base ≤ w.heap.size)
    (hK : ∀ v' w', w'.ownsRow base e size v' (n + m) (xs ++ news) → w.grownBy w' v.ownBlock → K (a.put o.dst v') w') :
    if Region.wanted o (yielded ops a.tmps) = true then Oper.wp P o a w K Q else E := by
  have hw : Region.wanted o (yielded ops a.tmps) = true := by simp [Region.wanted, hg]
  rw [if_pos hw]
  obtain ⟨i, h2, h3, h4, h5⟩ := info_parts he.1
  obtain ⟨v', w', hrun, r1, r2, _⟩ := run_append_own (P := P) w base t o.type e i z size bytes h1 h2 h3 h4 h5 he.2.1 he.2.2 v n xs hown ad m c news hn hc h1c b1 b2 hbase
  unfold Oper.wp
  simp [execOp, hop, resolve, invoke, builtin, hs, hx, hrun, Result.andThen]
  exact hK v' w' r1 r2
def McPost (w : World) (s : Mf) (e' : Ending) (w' : World) : Prop := ∃ A' c', e' = .returned (.agg (mfcells s A' c')) ∧ Ext w w' ∧ OwnSg w' w.heap.size A' s.segs c'
def McR (w : World) (s : Mf) (A : Option Addr) (c : Nat) (c11 : Value) (wr : World) : Prop :=
  ∃ (k : Nat) (A' : Option Addr) (c' : Nat), c11 = .int .i64 (k : Nat) ∧ k ≤ s.segs.length ∧ Ext w wr ∧ Blk wr w.heap.size 24 (mfcells s A c) ∧ Blk wr (w.heap.size + 1) 24 #[.int .i64 0, .int .i64 0, .int .i64 0, .int .i64 0, .int .i64 0, .slice none 0 0] ∧
    Blk wr (w.heap.size + 1 + 1) 24 (mfcells { s with segs := s.segs.take k } A' c') ∧ OwnSg wr w.heap.size A' (s.segs.take k) c'
theorem mtake_len {ls : List Sg} {k n : Nat} (h : k ≤ n) (hn : n = ls.length) : (ls.take k).length = k := by rw [List.length_take]; omega
set_option maxRecDepth 100000 in
set_option maxHeartbeats 4000000 in
theorem mcopy_any (s : Mf) (A : Option Addr) (c : Nat) (w : World) (hr : SgRd w A s.segs) (hl : s.segs.length ≤ 4398046511000) :
    Calls Tryd.prog 7 #[.agg (mfcells s A c)] w (McPost w s) := by
  obtain ⟨gen, next, floor, snap, snapSeq, ls⟩ := s
  unfold McPost
  have Hnn : Hid (∃ n, n = ls.length) := Lib.hid ⟨_, rfl⟩
  obtain ⟨n, hnn⟩ := Hnn.out
  have Hn := Lib.hid hnn
  clear Hnn
  unfold mfcells at *
  dsimp only at *
  rw [← hnn] at hl ⊢
  clear hnn
  go_enter Tryd.func7, Tryd.ntmps7
  go_wp2_with fail
  go_loopw [11] (fun c11 wr => McR w ⟨gen, next, floor, snap, snapSeq, ls⟩ A c c11 wr) (fun c11 _ => n - (intOf c11).toNat)
  case atStart => exact ⟨0, some ⟨w.heap.size + 1 + 1 + 1, 0, none⟩, 0, rfl, by omega, (by repeat (first | with_reducible exact Below.refl _ _ | with_reducible assumption | with_reducible refine ExtD ?_ | with_reducible refine ExtDN ?_ | with_reducible refine ExtA ?_ | (with_reducible refine ExtR ?_ ?_; (first | omega | (dsimp only; omega) | (simp; done) | (simp; omega))) | (with_reducible refine ExtS ?_ ?_; (first | omega | (dsimp only; omega) | (simp; done) | (simp; omega))) | with_reducible refine Ext.tr ?_ (by with_reducible assumption))), Blk_eq (cs := #[.int .i64 gen, .int .i64 next, .int .i64 floor, .int .i64 snap, .int .i64 snapSeq, .slice A n c]) (by repeat (first | with_reducible assumption | (with_reducible refine BlkN ?_; (first | rfl | (first | omega | (dsimp only; omega) | (simp; done) | (simp; omega)))) | with_reducible refine BlkD ?_ | with_reducible refine BlkDN ?_ | with_reducible refine BlkA ?_ | (with_reducible refine BlkF ?_ ?_; (first | omega | (dsimp only; omega) | (simp; done) | (simp; omega))) | with_reducible refine BlkE ?_ (by with_reducible assumption))) (by rw [Hn.out]; rfl), (by repeat (first | with_reducible assumption | (with_reducible refine BlkN ?_; (first | rfl | (first | omega | (dsimp only; omega) | (simp; done) | (simp; omega)))) | with_reducible refine BlkD ?_ | with_reducible refine BlkDN ?_ | with_reducible refine BlkA ?_ | (with_reducible refine BlkF ?_ ?_; (first | omega | (dsimp only; omega) | (simp; done) | (simp; omega))) | with_reducible refine BlkE ?_ (by with_reducible assumption))), Blk_eq (cs := #[.int .i64 gen, .int .i64 next, .int .i64 floor, .int .i64 snap, .int .i64 snapSeq, .slice (some ⟨w.heap.size + 1 + 1 + 1, 0, none⟩) 0 0]) (by repeat (first | with_reducible assumption | (with_reducible refine BlkN ?_; (first | rfl | (first | omega | (dsimp only; omega) | (simp; done) | (simp; omega)))) | with_reducible refine BlkD ?_ | with_reducible refine BlkDN ?_ | with_reducible refine BlkA ?_ | (with_reducible refine BlkF ?_ ?_; (first | omega | (dsimp only; omega) | (simp; done) | (simp; omega))) | with_reducible refine BlkE ?_ (by with_reducible assumption))) rfl, mown_of_cells (by omega) (cur := #[]) (by repeat (first | with_reducible assumption | (with_reducible refine BlkN ?_; (first | rfl | (first | omega | (dsimp only; omega) | (simp; done) | (simp; omega)))) | with_reducible refine BlkD ?_ | with_reducible refine BlkDN ?_ | with_reducible refine BlkA ?_ | (with_reducible refine BlkF ?_ ?_; (first | omega | (dsimp only; omega) | (simp; done) | (simp; omega))) | with_reducible refine BlkE ?_ (by with_reducible assumption))) (Nat.zero_le _) (by decide) rfl rfl⟩
  case round =>
    obtain ⟨k, A2, c2, rfl, hk, hx, hbS, hbR, hbT, ho⟩ := hrel
    dsimp only at hk hbT ho
    rw [← Hn.out] at hk
    by_cases hlt : k < n
    · have hk0 : (ls.take k).length = k := mtake_len hk Hn.out
      have hk1 : (ls.take (k + 1)).length = k + 1 := mtake_len (n := n) (by omega) Hn.out
      obtain ⟨b, o, rfl, hc⟩ := sg_at hr (show k < ls.length by rw [← Hn.out]; exact hlt)
      have Hc := Lib.hid (range_ext hc hx)
      have hts : sgCells (ls.take (k + 1)) = sgCells (ls.take k) ++ (sgcells (ls[k]'(by rw [← Hn.out]; exact hlt))).toList := by
        rw [List.take_succ_eq_append_getElem (by rw [← Hn.out]; exact hlt), sgCells_app, sgCells_one1]
      have H1 := Lib.hid (sg_one (ls[k]'(by rw [← Hn.out]; exact hlt)))
      clear hc
      generalize (ls[k]'(by rw [← Hn.out]; exact hlt)) = l at *
      obtain ⟨li, lp, lq, lsh⟩ := l
      unfold sgcells at Hc hts H1
      dsimp only at Hc hts H1
      have e0 : wr.cell? ⟨b, o + k * 4, none⟩ = some (.int .i64 li) := Hc.out 0 _ rfl
      have e1 : wr.cell? ⟨b, o + k * 4 + 1, none⟩ = some (.int .i64 lp) := Hc.out 1 _ rfl
      have e2 : wr.cell? ⟨b, o + k * 4 + 2, none⟩ = some (.int .i64 lq) := Hc.out 2 _ rfl
      have e3 : wr.cell? ⟨b, o + k * 4 + 3, none⟩ = some (.int .i64 lsh) := Hc.out 3 _ rfl
      have hbS5 : wr.cell? ⟨w.heap.size, 5, none⟩ = some (.slice (some ⟨b, o, none⟩) n c) := (hbS.cell 5).trans (by rw [Hn.out]; rfl)
      have hbT' : Blk wr (w.heap.size + 1 + 1) 24 #[.int .i64 gen, .int .i64 next, .int .i64 floor, .int .i64 snap, .int .i64 snapSeq, .slice A2 k c2] := Blk_eq hbT (by simp only [mfcells, hk0])
      have hbT5 : wr.cell? ⟨w.heap.size + 1 + 1, 5, none⟩ = some (.slice A2 k c2) := hbT'.cell 5
      have hA5 : ∀ ob, (wr.alloc ob).cell? ⟨w.heap.size + 1 + 1, 5, none⟩ = some (.slice A2 k c2) := fun ob => (BlkA hbT').cell 5
      have hap := mown_apart ho hbT
      have Hown2 : Hid (World.ownsRow ((wr.alloc (.cells #[.int .i64 li, .int .i64 lp, .int .i64 lq, .int .i64 lsh] 43)).drew) w.heap.size 43 4 (.slice A2 k c2) k (sgCells (ls.take k))) := Lib.hid (by have := MOwnD (MOwnA (o := .cells #[.int .i64 li, .int .i64 lp, .int .i64 lq, .int .i64 lsh] 43) ho); unfold OwnSg at this; rwa [hk0] at this)
      have hbT2 : Blk ((wr.alloc (.cells #[.int .i64 li, .int .i64 lp, .int .i64 lq, .int .i64 lsh] 43)).drew) (w.heap.size + 1 + 1) 24 #[.int .i64 gen, .int .i64 next, .int .i64 floor, .int .i64 snap, .int .i64 snapSeq, .slice A2 k c2] := BlkD (BlkA hbT')
      have hbL : Blk ((wr.alloc (.cells #[.int .i64 li, .int .i64 lp, .int .i64 lq, .int .i64 lsh] 43)).drew) wr.heap.size 43 #[.int .i64 li, .int .i64 lp, .int .i64 lq, .int .i64 lsh] := BlkD (BlkN rfl)
      have Hnw : Hid (∀ j u, (#[.int .i64 li, .int .i64 lp, .int .i64 lq, .int .i64 lsh] : Array Value).toList[j]? = some u → ((wr.alloc (.cells #[.int .i64 li, .int .i64 lp, .int .i64 lq, .int .i64 lsh] 43)).drew).cell? ((⟨wr.heap.size, 0, none⟩ : Addr).add j) = some u) := Lib.hid fun j u hu => by rw [Addr.add_lit, Nat.zero_add, hbL.cell]; simpa using hu
      have hN : w.heap.size ≤ wr.heap.size := hx.size
      have Hbs : Hid (w.heap.size ≤ ((wr.alloc (.cells #[.int .i64 li, .int .i64 lp, .int .i64 lq, .int .i64 lsh] 43)).drew).heap.size) := Lib.hid (by simp; omega)
      have hkn : (k : Int) < (n : Int) := by omega
      have mixed : Tryd.prog.follows Departure.mixedOrders = true := by kernel_rfl
      have HbR := Lib.hid hbR
      have HbS := Lib.hid hbS
      have Hts := Lib.hid hts
      have ho0 := ho
      clear hbR hbS hbT hbT' hts ho
      go_wp2_with fail
      go_region_law_o (refine mstep_append_own rfl (.tmp 15) (.tmp 21) 22 rfl w.heap.size 43 _ 4 32 Tryd.underlying22 el_sg (.slice A2 k c2) k (sgCells (ls.take k)) (by simp [Act.eval, Act.put]) Hown2.out ⟨wr.heap.size, 0, none⟩ 1 1 [.int .i64 li, .int .i64 lp, .int .i64 lq, .int .i64 lsh] (by simp [Act.eval, Act.put]) rfl Hnw.out H1.out (by simp only [maxLen]; omega) (by omega) Hbs.out ?_; intro v' w2 hown' hg'; obtain ⟨A3, c3, rfl⟩ := own_slice hown'; have q := BlkG hbT2 hg' (fun h => hap _ _ h.symm); have z1 := q.cell 5; have z2 := q.frozen 5)
      all_goals
        go_wp2_with fail
        refine And.intro ?_ ?_
        · have o3 : OwnSg w2 w.heap.size A3 (ls.take (k + 1)) c3 := by unfold OwnSg; rw [hk1, Hts.out]; exact hown'
          have hap3 := mown_apart o3 q
          have hX2 : Ext w w2 := Ext.grown (show Ext w ((wr.alloc (.cells #[.int .i64 li, .int .i64 lp, .int .i64 lq, .int .i64 lsh] 43)).drew) from (by repeat (first | with_reducible exact Below.refl _ _ | with_reducible assumption | with_reducible refine ExtD ?_ | with_reducible refine ExtDN ?_ | with_reducible refine ExtA ?_ | (with_reducible refine ExtR ?_ ?_; (first | omega | (dsimp only; omega) | (simp; done) | (simp; omega))) | (with_reducible refine ExtS ?_ ?_; (first | omega | (dsimp only; omega) | (simp; done) | (simp; omega))) | with_reducible refine Ext.tr ?_ (by with_reducible assumption)))) hg' (fun r hr2 => (World.ownsRow.lt Hown2.out r hr2).1)
          refine ⟨k + 1, A3, c3, by go_num, by have := Hn.out; dsimp only; omega, (by repeat (first | with_reducible exact Below.refl _ _ | with_reducible assumption | with_reducible refine ExtD ?_ | with_reducible refine ExtDN ?_ | with_reducible refine ExtA ?_ | (with_reducible refine ExtR ?_ ?_; (first | omega | (dsimp only; omega) | (simp; done) | (simp; omega))) | (with_reducible refine ExtS ?_ ?_; (first | omega | (dsimp only; omega) | (simp; done) | (simp; omega))) | with_reducible refine Ext.tr ?_ (by with_reducible assumption))), ?_, ?_, Blk_eq (BlkS q) (by simp only [mfcells, hk1]; rfl), MOwnSt hap3 o3⟩
          · exact BlkF (by dsimp only; omega) (BlkG (BlkD (BlkA HbS.out)) hg' (fun h => mown_apart ho0 HbS.out _ _ h.symm))
          · exact BlkF (by dsimp only; omega) (BlkG (BlkD (BlkA HbR.out)) hg' (fun h => mown_apart ho0 HbR.out _ _ h.symm))
        · simp [intOf]; omega
    · obtain rfl : k = n := by omega
      have htk : ls.take k = ls := List.take_of_length_le (by have := Hn.out; omega)
      rw [htk] at hbT ho
      have hbT' : Blk wr (w.heap.size + 1 + 1) 24 #[.int .i64 gen, .int .i64 next, .int .i64 floor, .int .i64 snap, .int .i64 snapSeq, .slice A2 k c2] := Blk_eq hbT (by simp only [mfcells]; rw [← Hn.out])
      have hap := mown_apart ho hbR
      go_wp2_with (first
        | (with_reducible refine wpL_load_row rfl 24 (.tmp 3) rfl _ 24 _ 6 rfl hbT' mf_wide (mf_size' _ _ _ _ _ _ _ _) ?_)
        | (with_reducible refine wpL_store_row rfl 24 (.tmp 2) (.tmp 25) rfl _ 24 _ _ rfl rfl hbR ((mf_size' _ _ _ _ _ _ _ _).trans (mf_size' _ _ _ _ _ _ _ _).symm) (mf_one' _ _ _ _ _ _ _ _) 6 mf_wide (mf_size' _ _ _ _ _ _ _ _) ?_))
      refine bodyPost_ret (res_row rfl _ _ _ 24 _ 6 rfl (Blk.setRow_ hbR) mf_wide rfl) rfl ?_
      exact ⟨A2, c2, rfl, (by repeat (first | with_reducible exact Below.refl _ _ | with_reducible assumption | with_reducible refine ExtD ?_ | with_reducible refine ExtDN ?_ | with_reducible refine ExtA ?_ | (with_reducible refine ExtR ?_ ?_; (first | omega | (dsimp only; omega) | (simp; done) | (simp; omega))) | (with_reducible refine ExtS ?_ ?_; (first | omega | (dsimp only; omega) | (simp; done) | (simp; omega))) | with_reducible refine Ext.tr ?_ (by with_reducible assumption))), MOwnRw hap ho⟩
def MsR (W : World) (n : Nat) (c91 : Value) (wr : World) : Prop := ∃ k : Nat, c91 = .int .i64 (k : Nat) ∧ k ≤ n ∧ Ext W wr
set_option maxRecDepth 100000 in
set_option maxHeartbeats 4000000 in
theorem msame_any (s : Mf) (A A2 : Option Addr) (c c2 : Nat) (w : World) (hr : SgRd w A s.segs) (hr2 : SgRd w A2 s.segs) (hl : s.segs.length ≤ 4611686018427387904) :
    Calls Tryd.prog 13 #[.agg (mfcells s A c), .agg (mfcells s A2 c2)] w fun e w' => e = .returned (.bool true) ∧ Ext w w' := by
  obtain ⟨gen, next, floor, snap, snapSeq, ls⟩ := s
  have Hnn : Hid (∃ n, n = ls.length) := Lib.hid ⟨_, rfl⟩
  obtain ⟨n, hnn⟩ := Hnn.out
  have Hn := Lib.hid hnn
  clear Hnn
  unfold mfcells at *
  dsimp only at *
  rw [← hnn] at hl ⊢
  clear hnn
  go_enter Tryd.func13, Tryd.ntmps13
  go_wp2_with fail
  obtain ⟨W, hW⟩ : ∃ W, W = (w.alloc (.cells #[.int .i64 gen, .int .i64 next, .int .i64 floor, .int .i64 snap, .int .i64 snapSeq, .slice A n c] 24)).alloc (.cells #[.int .i64 gen, .int .i64 next, .int .i64 floor, .int .i64 snap, .int .i64 snapSeq, .slice A2 n c2] 24) := ⟨_, rfl⟩
  have hXW : Ext w W := by rw [hW]; exact (by repeat (first | with_reducible exact Below.refl _ _ | with_reducible assumption | with_reducible refine ExtD ?_ | with_reducible refine ExtDN ?_ | with_reducible refine ExtA ?_ | (with_reducible refine ExtR ?_ ?_; (first | omega | (dsimp only; omega) | (simp; done) | (simp; omega))) | (with_reducible refine ExtS ?_ ?_; (first | omega | (dsimp only; omega) | (simp; done) | (simp; omega))) | with_reducible refine Ext.tr ?_ (by with_reducible assumption)))
  have hB1 : Blk W w.heap.size 24 #[.int .i64 gen, .int .i64 next, .int .i64 floor, .int .i64 snap, .int .i64 snapSeq, .slice A n c] := by rw [hW]; exact (by repeat (first | with_reducible assumption | (with_reducible refine BlkN ?_; (first | rfl | (first | omega | (dsimp only; omega) | (simp; done) | (simp; omega)))) | with_reducible refine BlkD ?_ | with_reducible refine BlkDN ?_ | with_reducible refine BlkA ?_ | (with_reducible refine BlkF ?_ ?_; (first | omega | (dsimp only; omega) | (simp; done) | (simp; omega))) | with_reducible refine BlkE ?_ (by with_reducible assumption)))
  have hB2 : Blk W (w.heap.size + 1) 24 #[.int .i64 gen, .int .i64 next, .int .i64 floor, .int .i64 snap, .int .i64 snapSeq, .slice A2 n c2] := by rw [hW]; exact (by repeat (first | with_reducible assumption | (with_reducible refine BlkN ?_; (first | rfl | (first | omega | (dsimp only; omega) | (simp; done) | (simp; omega)))) | with_reducible refine BlkD ?_ | with_reducible refine BlkDN ?_ | with_reducible refine BlkA ?_ | (with_reducible refine BlkF ?_ ?_; (first | omega | (dsimp only; omega) | (simp; done) | (simp; omega))) | with_reducible refine BlkE ?_ (by with_reducible assumption)))
  rw [← hW]
  clear hW
  go_loopw [5, 51] (fun _ c91 wr => MsR W n c91 wr) (fun _ c91 _ => n - (intOf c91).toNat)
  case atStart => exact ⟨0, rfl, by omega, Below.refl _ _⟩
  case round =>
    obtain ⟨k, rfl, hk, hx⟩ := hrel
    by_cases hlt : k < n
    · obtain ⟨b, o, rfl, hc⟩ := sg_at hr (show k < ls.length by rw [← Hn.out]; exact hlt)
      obtain ⟨b2, o2, rfl, hc2⟩ := sg_at hr2 (show k < ls.length by rw [← Hn.out]; exact hlt)
      have Hc := Lib.hid (range_ext hc (hXW.tr hx))
      have Hc2 := Lib.hid (range_ext hc2 (hXW.tr hx))
      clear hc hc2
      generalize (ls[k]'(by rw [← Hn.out]; exact hlt)) = l at *
      obtain ⟨li, lp, lq, lsh⟩ := l
      unfold sgcells at Hc Hc2
      dsimp only at Hc Hc2
      have e0 : wr.cell? ⟨b, o + k * 4, none⟩ = some (.int .i64 li) := Hc.out 0 _ rfl
      have e1 : wr.cell? ⟨b, o + k * 4 + 1, none⟩ = some (.int .i64 lp) := Hc.out 1 _ rfl
      have e2 : wr.cell? ⟨b, o + k * 4 + 2, none⟩ = some (.int .i64 lq) := Hc.out 2 _ rfl
      have e3 : wr.cell? ⟨b, o + k * 4 + 3, none⟩ = some (.int .i64 lsh) := Hc.out 3 _ rfl
      have f0 : wr.cell? ⟨b2, o2 + k * 4, none⟩ = some (.int .i64 li) := Hc2.out 0 _ rfl
      have f1 : wr.cell? ⟨b2, o2 + k * 4 + 1, none⟩ = some (.int .i64 lp) := Hc2.out 1 _ rfl
      have f2 : wr.cell? ⟨b2, o2 + k * 4 + 2, none⟩ = some (.int .i64 lq) := Hc2.out 2 _ rfl
      have f3 : wr.cell? ⟨b2, o2 + k * 4 + 3, none⟩ = some (.int .i64 lsh) := Hc2.out 3 _ rfl
      have a5 : wr.cell? ⟨w.heap.size, 5, none⟩ = some (.slice (some ⟨b, o, none⟩) n c) := (BlkE hB1 hx).cell 5
      have b5 : wr.cell? ⟨w.heap.size + 1, 5, none⟩ = some (.slice (some ⟨b2, o2, none⟩) n c2) := (BlkE hB2 hx).cell 5
      have hkn : (k : Int) < (n : Int) := by omega
      go_wp2_with fail
      all_goals try go_region
      all_goals (go_wp2_with fail)
      refine And.intro ?_ ?_
      · exact ⟨k + 1, by go_num, by omega, (by repeat (first | with_reducible exact Below.refl _ _ | with_reducible assumption | with_reducible refine ExtD ?_ | with_reducible refine ExtDN ?_ | with_reducible refine ExtA ?_ | (with_reducible refine ExtR ?_ ?_; (first | omega | (dsimp only; omega) | (simp; done) | (simp; omega))) | (with_reducible refine ExtS ?_ ?_; (first | omega | (dsimp only; omega) | (simp; done) | (simp; omega))) | with_reducible refine Ext.tr ?_ (by with_reducible assumption)))⟩
      · simp [intOf]; omega
    · obtain rfl : k = n := by omega
      go_wp2_with fail
      go_ret
      exact ⟨rfl, (by repeat (first | with_reducible exact Below.refl _ _ | with_reducible assumption | with_reducible refine ExtD ?_ | with_reducible refine ExtDN ?_ | with_reducible refine ExtA ?_ | (with_reducible refine ExtR ?_ ?_; (first | omega | (dsimp only; omega) | (simp; done) | (simp; omega))) | (with_reducible refine ExtS ?_ ?_; (first | omega | (dsimp only; omega) | (simp; done) | (simp; omega))) | with_reducible refine Ext.tr ?_ (by with_reducible assumption)))⟩
end Go.Proofs.YtjomgppbialeoaaDoor
