/-
  Segments and manifests in memory, and opened as arguments. (Written by wip/tools/gen_manm.py out of the texts on lines and states.)
-/
import Derived.Test.YtjomgppbialeoaaDoorProg
import Derived.Test.YtjomgppbialeoaaDoorManP
import Derived.Test.YtjomgppbialeoaaDoorOwn
import Derived.Test.YtjomgppbialeoaaDoorResT
import Derived.Deep.MidRow
import Derived.ProofKit
import Derived.OpenShut
import Derived.SizedLaws
import Derived.Deep.Slices
import Derived.Deep.Fields
import Derived.ChangeSame
namespace Go.Proofs.YtjomgppbialeoaaDoor
open Go.RowKit
set_option linter.unusedVariables false
set_option linter.unusedSimpArgs false
def sgcells (l : Sg) : Array Value := #[.int .i64 l.num, .int .i64 l.first, .int .i64 l.count, .int .i64 l.foot]
def sgCells (ls : List Sg) : List Value := ls.flatMap fun l => (sgcells l).toList
def SgRd (w : World) (A : Option Addr) (ls : List Sg) : Prop := RdN w 4 A ls.length (sgCells ls)
theorem sg_wide : Wide Tryd.prog 43 4 := ⟨⟨_, Tryd.underlying43, rfl⟩, by kernel_rfl⟩
theorem sg_one (l : Sg) : ∀ v ∈ (sgcells l).toList, v.oneCell' = true := by
  intro v hv; simp [sgcells] at hv; rcases hv with rfl | rfl | rfl | rfl <;> rfl
theorem sgCells_len (ls : List Sg) : (sgCells ls).length = ls.length * 4 := by
  induction ls with
  | nil => rfl
  | cons h r ih => simp only [sgCells, List.flatMap_cons, List.length_append] at ih ⊢; rw [ih]; simp [sgcells]; omega
theorem sgCells_app (a b : List Sg) : sgCells (a ++ b) = sgCells a ++ sgCells b := by simp [sgCells]
theorem sgCells_one (ls : List Sg) : ∀ v ∈ sgCells ls, v.oneCell' = true := by
  intro v hv
  obtain ⟨l, _, hl⟩ := List.mem_flatMap.1 hv
  exact sg_one l v hl
theorem sgCells_at (ls : List Sg) (k j : Nat) (l : Sg) (hk : ls[k]? = some l) (hj : j < 4) : (sgCells ls)[k * 4 + j]? = (sgcells l).toList[j]? := by
  induction ls generalizing k with
  | nil => simp at hk
  | cons g r ih =>
    have e : sgCells (g :: r) = (sgcells g).toList ++ sgCells r := by simp [sgCells]
    rw [e]
    cases k with
    | zero =>
      simp at hk
      subst hk
      rw [List.getElem?_append_left (by simp [sgcells]; omega)]
      simp
    | succ k =>
      rw [List.getElem?_append_right (by simp [sgcells]; omega)]
      have : (k + 1) * 4 + j - (sgcells g).toList.length = k * 4 + j := by simp [sgcells]; omega
      rw [this]
      exact ih k (by simpa using hk)
theorem SgRd.ext {w w' : World} {A : Option Addr} {ls : List Sg} (h : SgRd w A ls) (hx : Ext w w') : SgRd w' A ls := RdN.ext h hx
theorem sg_at {w : World} {A : Option Addr} {k : Nat} {ls : List Sg} (h : SgRd w A ls) (hk : k < ls.length) :
    ∃ b o, A = some ⟨b, o, none⟩ ∧ w.rangeAt b (o + k * 4) (sgcells ls[k]).toList := by
  obtain ⟨b, o, e, hc⟩ := h.2 (by omega)
  have hg : ls[k]? = some ls[k] := List.getElem?_eq_getElem hk
  refine ⟨b, o, e, fun j v hv => ?_⟩
  have hj : j < 4 := by
    have := (List.getElem?_eq_some_iff.1 hv).1
    simpa [sgcells] using this
  rw [Nat.add_assoc]
  exact hc _ _ (by rw [sgCells_at ls k j _ hg hj]; exact hv)
section
variable {w : World}
theorem wpL_load_sg {ops : Array Oper} {rest : List Oper} {op : Oper} {a : Act} {Q : Exit → Act → World → Prop} (hgd : op.guard = none) (x : Operand) (ho : op.op = .load 43 x)
    (b o : Nat) (hx : a.eval x = .pointer (some ⟨b, o, none⟩)) (cs : Array Value) (hc : w.rangeAt b o cs.toList) (hsz : cs.size = 4)
    (h : wpList Tryd.prog ops Q rest (a.put op.dst (.agg cs)) w) : wpList Tryd.prog ops Q (op :: rest) a w := by
  obtain ⟨⟨d, hu, hd⟩, hi⟩ := sg_wide
  exact wpList_load_mid hgd 43 x ho b o hx cs.toList d hc hu (by revert hd; cases d <;> simp [TypeDesc.isRow]) (by rw [Array.length_toList, hsz]; exact hi) h
end
theorem el_sg : Elem Tryd.prog 43 (.agg (sgcells ⟨0, 0, 0, 0⟩)) 4 32 := ⟨by kernel_rfl, rfl, by decide⟩
def OwnSg (w : World) (base : Nat) (A : Option Addr) (ls : List Sg) (c : Nat) : Prop := w.ownsRow base 43 4 (.slice A ls.length c) ls.length (sgCells ls)
theorem OwnSg.rd {w : World} {base : Nat} {A : Option Addr} {c : Nat} {ls : List Sg} (h : OwnSg w base A ls c) : SgRd w A ls := RdN.of_own h
theorem own_noSg (w : World) : (w.alloc (.cells #[] 43)).ownsRow w.heap.size 43 4 (.slice (some ⟨w.heap.size, 0, none⟩) 0 0) 0 [] := own_new w w.heap.size #[] _ 0 (Nat.le_refl _) (by decide) rfl
theorem sown_cap {w : World} {base : Nat} {A : Option Addr} {c : Nat} {ls : List Sg} (h : OwnSg w base A ls c) : ls.length ≤ c ∧ c ≤ 9223372036854775807 := by
  rcases h.2 with ⟨h1, h2⟩ | ⟨g, cap, cur, h1, h2, h3, h4, h5, _⟩
  · injection h1 with h3 h4 h5
    omega
  · injection h1 with h6 h7 h8
    simp only [maxLen] at h5
    omega
theorem sown_form {w : World} {base : Nat} {A : Option Addr} {c : Nat} {ls : List Sg} (h : OwnSg w base A ls c) (h0 : 0 < ls.length) : ∃ g cur, A = some ⟨g, 0, none⟩ ∧ base ≤ g ∧ Blk w g 43 cur ∧ cur.size = c * 4 ∧ ∀ j, j < ls.length * 4 → cur[j]? = (sgCells ls)[j]? := by
  rcases h.2 with ⟨h1, h2⟩ | ⟨g, cap, cur, h1, h2, h3, h4, h5, h6, h7⟩
  · omega
  · injection h1 with h8 h9 h10
    subst h8 h10
    refine ⟨g, cur, rfl, h2, h3, h6, fun j hj => ?_⟩
    rw [← h7, List.getElem?_take, if_pos hj, Array.getElem?_toList]
def SNotOwn (A : Option Addr) (g : Nat) : Prop := ∀ n c, (Value.slice A n c).ownBlock ≠ some g
theorem sown_less {w : World} {b1 b2 c : Nat} {A : Option Addr} {ls : List Sg} (h : OwnSg w b1 A ls c) (hb : b2 ≤ b1) : OwnSg w b2 A ls c := by
  refine ⟨h.1, ?_⟩
  rcases h.2 with h1 | ⟨g, cap, cur, h1, h2, h3⟩
  · exact .inl h1
  · exact .inr ⟨g, cap, cur, h1, Nat.le_trans hb h2, h3⟩
theorem srd_one {w : World} {vb : Nat} {l : Sg} (hv : Blk w vb 43 (sgcells l)) : RdN w 4 (some ⟨vb, 0, none⟩) 1 (sgcells l).toList :=
  ⟨rfl, fun _ => ⟨vb, 0, rfl, fun j u hu => by rw [Nat.zero_add, hv.cell]; simpa using hu⟩⟩
def mfcells (m : Mf) (A : Option Addr) (c : Nat) : Array Value := #[.int .i64 m.gen, .int .i64 m.next, .int .i64 m.floor, .int .i64 m.snap, .int .i64 m.snapSeq, .slice A m.segs.length c]
theorem mf_wide : Wide Tryd.prog 24 6 := ⟨⟨_, Tryd.underlying24, rfl⟩, by kernel_rfl⟩
theorem mf_size (m : Mf) (A : Option Addr) (c : Nat) : (mfcells m A c).size = 6 := rfl
theorem mf_one (m : Mf) (A : Option Addr) (c : Nat) : ∀ v ∈ (mfcells m A c).toList, v.oneCell' = true := by
  intro v hv; simp [mfcells] at hv; rcases hv with rfl | rfl | rfl | rfl | rfl | rfl <;> rfl
open Go.ChangeShapes Go.WideShapes Go.Deep
section
variable {H : Type} {P : Program}
def MSz (P : Program) (t : TypeId) (d : DataW H) : Prop := ∀ n ∈ d.weights P t, n ≤ reachBytes
theorem msz_of {ts : List TypeId} {ds : List (DataW H)} (h : (DataW.weightsEach P ts ds).all (· ≤ reachBytes) = true) {j : Nat} {t : TypeId} {d : DataW H} (ht : ts[j]? = some t) (hd : ds[j]? = some d) : MSz P t d := fun n hn => by
  simpa using List.all_eq_true.1 h n (DataW.weights_mem_each ht hd n hn)
theorem mall_mem {e : TypeId} {l : List (DataW H)} {d : DataW H} (hd : d ∈ l) : ∀ n ∈ d.weights P e, n ∈ DataW.weightsAll P e l := by
  induction l with
  | nil => cases hd
  | cons x r ih =>
    intro n hn
    rw [DataW.weightsAll, List.mem_append]
    rcases List.mem_cons.1 hd with rfl | hd
    · exact .inl hn
    · exact .inr (ih hd n hn)
theorem msz_slice {t e : TypeId} {el sp : List (DataW H)} (h : MSz P t (.slice el sp)) (hu : P.underlying t = some (.slice e)) : (el.length + sp.length) * P.bytesOf e ≤ reachBytes ∧ ∀ d ∈ el, MSz P e d := by
  have hw : (DataW.slice el sp : DataW H).weights P t = (el.length + sp.length) * P.bytesOf e :: (DataW.weightsAll P e el ++ DataW.weightsAll P e sp) := by rw [DataW.weights, hu]
  refine ⟨h _ (by rw [hw]; exact List.mem_cons_self ..), fun d hd n hn => h n ?_⟩
  rw [hw]
  exact List.mem_cons_of_mem _ (List.mem_append_left _ (mall_mem hd n hn))
theorem msz_agg {t : TypeId} {fs : Array Field} {parts : List (DataW H)} (h : MSz P t (.agg parts)) (hu : P.underlying t = some (.struct fs)) {j : Nat} {f : Field} {d : DataW H} (hf : fs[j]? = some f) (hd : parts[j]? = some d) : MSz P f.type d := fun n hn => by
  refine h n ?_
  have hw : (DataW.agg parts : DataW H).weights P t = DataW.weightsEach P (fs.toList.map (·.type)) parts := by rw [DataW.weights, hu]
  rw [hw]
  exact DataW.weights_mem_each (j := j) (by simp [hf]) hd n hn
theorem mchoose_list {α : Type} {p : Nat → α → Prop} (n : Nat) (h : ∀ i, i < n → ∃ x, p i x) : ∃ l : List α, l.length = n ∧ ∀ i x, l[i]? = some x → p i x := by
  induction n with
  | zero => exact ⟨[], rfl, fun i x hx => by simp at hx⟩
  | succ n ih =>
    obtain ⟨l, hl, hp⟩ := ih fun i hi => h i (by omega)
    obtain ⟨x, hx⟩ := h n (by omega)
    refine ⟨l ++ [x], by simp [hl], fun i y hy => ?_⟩
    by_cases hi : i < n
    · rw [List.getElem?_append_left (by omega)] at hy
      exact hp i y hy
    · rw [List.getElem?_append_right (by omega)] at hy
      have : i = n := by
        have := (List.getElem?_eq_some_iff.1 hy).1
        simp at this
        omega
      subst this
      simp [hl] at hy
      subst hy
      exact hx
end
theorem maddr_add (b o j : Nat) : (⟨b, o, none⟩ : Addr).add j = ⟨b, o + j, none⟩ := by by_cases h : j = 0 <;> simp [Addr.add, h]
theorem maddr_spot {w : World} {x : Addr} {v : Value} (h : w.cell? (x.add 0) = some v) : ∃ b o, x = ⟨b, o, none⟩ := by
  obtain ⟨b, o, sp⟩ := x
  have hsp : sp = none := by simpa [Addr.add] using World.cell?_spot h
  subst hsp
  exact ⟨b, o, rfl⟩
section
variable {H : Type} {enc : TypeId × Value → H} {w : World} {base : Nat} {spare : Nat → Bool} {held : Bool}
theorem okWide_ag {P : Program} {W : World} {r : Reach} {b : Nat} {t : TypeId} {fs : Array Field} {v : Value} (hu : P.underlying t = some (.struct fs)) (h : Value.okWide P W r b t v) : ∃ cs, v = .agg cs := by
  unfold Value.okWide at h
  rw [hu] at h
  obtain ⟨cs, h, _⟩ := h
  exact ⟨cs, h⟩
def MI64 (x : Int) : Prop := -9223372036854775808 ≤ x ∧ x ≤ 9223372036854775807
theorem mi64_of {x : Int} (h : (Lit.int .i64 x).wf = true) : MI64 x := by
  simp [Lit.wf, IntKind.min, IntKind.max, IntKind.signed, IntKind.bits] at h; exact h
def SgWf (l : Sg) : Prop := MI64 l.num ∧ MI64 l.first ∧ MI64 l.count ∧ MI64 l.foot
set_option maxRecDepth 100000 in
set_option maxHeartbeats 1000000 in
theorem open_sg {fuel : Nat} {cs : List Value} {y : DataW H × List MemPlace} (h : DataW.trod enc Tryd.prog w base spare held fuel 43 cs = some y) (hs : MSz Tryd.prog 43 y.1) :
    ∃ l, cs = (sgcells l).toList ∧ SgWf l := by
  obtain ⟨ys, n, _, rfl, hlen, hyl, hf⟩ := DataW.trod_struct Tryd.underlying43 h
  have hC : Tryd.prog.cellsOf 43 = 4 := by kernel_rfl
  have k0 : Tryd.prog.cellsOf 3 = 1 := by kernel_rfl
  rw [hC] at hlen
  match cs, hlen with
  | [c0, c1, c2, c3], _ =>
    match ys, hyl with
    | [y0, y1, y2, y3], _ =>
      have h0 : DataW.trod enc Tryd.prog w base spare held n 3 (List.take (Tryd.prog.cellsOf 3) [c0, c1, c2, c3]) = some y0 := hf 0 _ rfl
      have h1 : DataW.trod enc Tryd.prog w base spare held n 3 (List.take (Tryd.prog.cellsOf 3) [c1, c2, c3]) = some y1 := hf 1 _ rfl
      have h2 : DataW.trod enc Tryd.prog w base spare held n 3 (List.take (Tryd.prog.cellsOf 3) [c2, c3]) = some y2 := hf 2 _ rfl
      have h3 : DataW.trod enc Tryd.prog w base spare held n 3 (List.take (Tryd.prog.cellsOf 3) [c3]) = some y3 := hf 3 _ rfl
      rw [k0] at h0
      rw [k0] at h1
      rw [k0] at h2
      rw [k0] at h3
      obtain ⟨m0, e0, _, w0⟩ := DataW.trod_int Tryd.underlying3 h0
      obtain ⟨m1, e1, _, w1⟩ := DataW.trod_int Tryd.underlying3 h1
      obtain ⟨m2, e2, _, w2⟩ := DataW.trod_int Tryd.underlying3 h2
      obtain ⟨m3, e3, _, w3⟩ := DataW.trod_int Tryd.underlying3 h3
      simp at e0 e1 e2 e3
      subst e0 e1 e2 e3
      exact ⟨⟨m0, m1, m2, m3⟩, rfl, mi64_of w0, mi64_of w1, mi64_of w2, mi64_of w3⟩
set_option maxRecDepth 100000 in
theorem open_segs {fuel : Nat} {v : Value} {y : DataW H × List MemPlace} (h : DataW.trod enc Tryd.prog w base spare held fuel 22 [v] = some y) (hs : MSz Tryd.prog 22 y.1) :
    ∃ A c ls, v = .slice A (ls : List Sg).length c ∧ SgRd w A ls ∧ ls.length * 32 ≤ 140737488351232 ∧ ∀ l ∈ ls, SgWf l := by
  rcases open_slice Tryd.underlying22 h with ⟨hcs, _⟩ | ⟨x, n, c, m, k, D, Pl, hcs, _, hl, hm, hmm, rfl, hi⟩
  · simp at hcs
    exact ⟨none, 0, [], hcs, RdN.nil_ _ _ _, (by simp), (fun l hl => by cases hl)⟩
  · simp at hcs
    have hC : Tryd.prog.cellsOf 43 = 4 := by kernel_rfl
    have hB : Tryd.prog.bytesOf 43 = 32 := by kernel_rfl
    rw [hC] at hi
    obtain ⟨z1, z2⟩ := msz_slice hs Tryd.underlying22
    rw [hB] at z1
    simp only [List.length_map, List.length_range, reachBytes] at z1
    have hnm : n ≤ m := by rw [hmm]; split <;> omega
    obtain ⟨gs, hl2, hp⟩ := mchoose_list (α := Sg) (p := fun i l => (∀ j u, (sgcells l).toList[j]? = some u → w.cell? ((x.add (i * 4)).add j) = some u) ∧ SgWf l) n fun i hin => by
      obtain ⟨cs, hc, ht⟩ := hi i (by omega)
      obtain ⟨_, hcl, hat⟩ := World.cells?_some hc
      obtain ⟨l, rfl, hw⟩ := open_sg ht (z2 (D i) (by simp; exact ⟨i, hin, rfl⟩))
      exact ⟨l, fun j u hu => by
        have hj : j < 4 := by have := (List.getElem?_eq_some_iff.1 hu).1; simpa [sgcells] using this
        rw [hat j hj]; exact hu, hw⟩
    subst hl2
    refine ⟨some x, c, gs, hcs, ⟨sgCells_len gs, fun h0 => ?_⟩, by omega, fun l hl => ?_⟩
    · have h1 := (hp 0 gs[0] (List.getElem?_eq_getElem (by omega))).1 0 _ rfl
      obtain ⟨b, o, rfl⟩ := maddr_spot (x := x) (by rw [Nat.zero_mul] at h1; exact h1)
      refine ⟨b, o, rfl, fun j u hu => ?_⟩
      have hj : j < gs.length * 4 := by
        have := (List.getElem?_eq_some_iff.1 hu).1
        rw [sgCells_len] at this
        omega
      have hg : gs[j / 4]? = some gs[j / 4] := List.getElem?_eq_getElem (by omega)
      have h2 := sgCells_at gs (j / 4) (j % 4) _ hg (by omega)
      rw [show j / 4 * 4 + j % 4 = j by omega, hu] at h2
      have h3 := (hp (j / 4) _ hg).1 (j % 4) u h2.symm
      rw [maddr_add, maddr_add, show o + j / 4 * 4 + j % 4 = o + j by omega] at h3
      exact h3
    · obtain ⟨i, hi2⟩ := List.mem_iff_getElem?.1 hl
      exact (hp i l hi2).2
def MfWf (m : Mf) : Prop := (MI64 m.gen ∧ MI64 m.next ∧ MI64 m.floor ∧ MI64 m.snap ∧ MI64 m.snapSeq) ∧ m.segs.length ≤ 4398046510976 ∧ ∀ g ∈ m.segs, SgWf g
set_option maxRecDepth 100000 in
set_option maxHeartbeats 1000000 in
theorem open_mf {fuel : Nat} {cs : List Value} {y : DataW H × List MemPlace} (h : DataW.trod enc Tryd.prog w base spare held fuel 24 cs = some y) (hs : MSz Tryd.prog 24 y.1) :
    ∃ m A c, cs = (mfcells m A c).toList ∧ SgRd w A m.segs ∧ MfWf m := by
  obtain ⟨ys, n, _, rfl, hlen, hyl, hf⟩ := DataW.trod_struct Tryd.underlying24 h
  have hC : Tryd.prog.cellsOf 24 = 6 := by kernel_rfl
  have k0 : Tryd.prog.cellsOf 3 = 1 := by kernel_rfl
  have k1 : Tryd.prog.cellsOf 22 = 1 := by kernel_rfl
  rw [hC] at hlen
  match cs, hlen with
  | [c0, c1, c2, c3, c4, c5], _ =>
    match ys, hyl with
    | [y0, y1, y2, y3, y4, y5], _ =>
      have h0 : DataW.trod enc Tryd.prog w base spare held n 3 (List.take (Tryd.prog.cellsOf 3) [c0, c1, c2, c3, c4, c5]) = some y0 := hf 0 _ rfl
      have h1 : DataW.trod enc Tryd.prog w base spare held n 3 (List.take (Tryd.prog.cellsOf 3) [c1, c2, c3, c4, c5]) = some y1 := hf 1 _ rfl
      have h2 : DataW.trod enc Tryd.prog w base spare held n 3 (List.take (Tryd.prog.cellsOf 3) [c2, c3, c4, c5]) = some y2 := hf 2 _ rfl
      have h3 : DataW.trod enc Tryd.prog w base spare held n 3 (List.take (Tryd.prog.cellsOf 3) [c3, c4, c5]) = some y3 := hf 3 _ rfl
      have h4 : DataW.trod enc Tryd.prog w base spare held n 3 (List.take (Tryd.prog.cellsOf 3) [c4, c5]) = some y4 := hf 4 _ rfl
      have h5 : DataW.trod enc Tryd.prog w base spare held n 22 (List.take (Tryd.prog.cellsOf 22) [c5]) = some y5 := hf 5 _ rfl
      rw [k0] at h0 h1 h2 h3 h4
      rw [k1] at h5
      obtain ⟨m0, e0, _, w0⟩ := DataW.trod_int Tryd.underlying3 h0
      obtain ⟨m1, e1, _, w1⟩ := DataW.trod_int Tryd.underlying3 h1
      obtain ⟨m2, e2, _, w2⟩ := DataW.trod_int Tryd.underlying3 h2
      obtain ⟨m3, e3, _, w3⟩ := DataW.trod_int Tryd.underlying3 h3
      obtain ⟨m4, e4, _, w4⟩ := DataW.trod_int Tryd.underlying3 h4
      have hz : MSz Tryd.prog 22 y5.1 := msz_agg hs Tryd.underlying24 (j := 5) rfl rfl
      obtain ⟨A, c, ls, e5, r1, r2, r3⟩ := open_segs (v := c5) (by simpa using h5) hz
      simp at e0 e1 e2 e3 e4
      subst e0 e1 e2 e3 e4 e5
      exact ⟨⟨m0, m1, m2, m3, m4, ls⟩, A, c, rfl, r1, ⟨mi64_of w0, mi64_of w1, mi64_of w2, mi64_of w3, mi64_of w4⟩, by dsimp only; omega, r3⟩
end
end Go.Proofs.YtjomgppbialeoaaDoor
