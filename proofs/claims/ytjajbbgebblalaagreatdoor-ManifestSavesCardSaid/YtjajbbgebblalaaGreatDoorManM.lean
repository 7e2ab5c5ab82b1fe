/-
  Segments and manifests in memory, and opened as arguments. (Written by wip/tools/gen_manm.py out of the texts on lines and states.)
-/
/-
  The walks of the reference's Copy of manifests, and of its Same at equal ones. (Written by wip/tools/gen_mcopy.py out of the texts on states.)
-/
import Derived.Test.YtjajbbgebblalaaGreatDoorProg
import Derived.Test.YtjajbbgebblalaaGreatDoorCrcP
import Derived.Test.YtjajbbgebblalaaGreatDoorOwn
import Derived.Test.YtjajbbgebblalaaGreatDoorResT
import Derived.Deep.MidRow
import Derived.ProofKit
import Derived.OpenShut
import Derived.SizedLaws
import Derived.Deep.Slices
import Derived.Deep.Fields
import Derived.ChangeSame
import Derived.Shelf.RegionOpenPlain
namespace Go.Proofs.YtjajbbgebblalaaGreatDoor
open Go.RowKit
set_option linter.unusedVariables false
set_option linter.unusedSimpArgs false
def sgcells (l : Sg) : Array Value := #[.int .i64 l.num, .int .i64 l.first, .int .i64 l.count, .int .i64 l.foot]
def sgCells (ls : List Sg) : List Value := ls.flatMap fun l => (sgcells l).toList
def SgRd (w : World) (A : Option Addr) (ls : List Sg) : Prop := RdN w 4 A ls.length (sgCells ls)
theorem sg_wide : Wide Tryz.prog 115 4 := ⟨⟨_, Tryz.underlying115, rfl⟩, by kernel_rfl⟩
theorem sg_one (l : Sg) : ∀ v ∈ (sgcells l).toList, v.oneCell' = true := by
  intro v hv; simp [sgcells] at hv; rcases hv with rfl | rfl | rfl | rfl <;> rfl
theorem sgCells_len (ls : List Sg) : (sgCells ls).length = ls.length * 4 := by
  induction ls with
  | nil => rfl
  | cons h r ih => simp only [sgCells, List.flatMap_cons, List.length_append] at ih ⊢; rw [ih]; simp [sgcells]; omega
theorem sgCells_app (a b : List Sg) : sgCells (a ++ b) = sgCells a ++ sgCells b := by simp [sgCells]
theorem sgCells_one (ls : List Sg) : ∀ v ∈ sgCells ls, v.oneCell' = true := by
  intro v hv
  obtain ⟨l, _, hl⟩ := List.mem_flatMap.1 hv
  exact sg_one l v hl
theorem sgCells_at (ls : List Sg) (k j : Nat) (l : Sg) (hk : ls[k]? = some l) (hj : j < 4) : (sgCells ls)[k * 4 + j]? = (sgcells l).toList[j]? := by
  induction ls generalizing k with
  | nil => simp at hk
  | cons g r ih =>
    have e : sgCells (g :: r) = (sgcells g).toList ++ sgCells r := by simp [sgCells]
    rw [e]
    cases k with
    | zero =>
      simp at hk
      subst hk
      rw [List.getElem?_append_left (by simp [sgcells]; omega)]
      simp
    | succ k =>
      rw [List.getElem?_append_right (by simp [sgcells]; omega)]
      have : (k + 1) * 4 + j - (sgcells g).toList.length = k * 4 + j := by simp [sgcells]; omega
      rw [this]
      exact ih k (by simpa using hk)
theorem SgRd.ext {w w' : World} {A : Option Addr} {ls : List Sg} (h : SgRd w A ls) (hx : Ext w w') : SgRd w' A ls := RdN.ext h hx
theorem sg_at {w : World} {A : Option Addr} {k : Nat} {ls : List Sg} (h : SgRd w A ls) (hk : k < ls.length) :
    ∃ b o, A = some ⟨b, o, none⟩ ∧ w.rangeAt b (o + k * 4) (sgcells ls[k]).toList := by
  obtain ⟨b, o, e, hc⟩ := h.2 (by omega)
  have hg : ls[k]? = some ls[k] := List.getElem?_eq_getElem hk
  refine ⟨b, o, e, fun j v hv => ?_⟩
  have hj : j < 4 := by
    have := (List.getElem?_eq_some_iff.1 hv).1
    simpa [sgcells] using this
  rw [Nat.add_assoc]
  exact hc _ _ (by rw [sgCells_at ls k j _ hg hj]; exact hv)
section
variable {w : World}
theorem wpL_load_sg {ops : Array Oper} {rest : List Oper} {op : Oper} {a : Act} {Q : Exit → Act → World → Prop} (hgd : op.guard = none) (x : Operand) (ho : op.op = .load 115 x)
    (b o : Nat) (hx : a.eval x = .pointer (some ⟨b, o, none⟩)) (cs : Array Value) (hc : w.rangeAt b o cs.toList) (hsz : cs.size = 4)
    (h : wpList Tryz.prog ops Q rest (a.put op.dst (.agg cs)) w) : wpList Tryz.prog ops Q (op :: rest) a w := by
  obtain ⟨⟨d, hu, hd⟩, hi⟩ := sg_wide
  exact wpList_load_mid hgd 115 x ho b o hx cs.toList d hc hu (by revert hd; cases d <;> simp [TypeDesc.isRow]) (by rw [Array.length_toList, hsz]; exact hi) h
end
theorem el_sg : Elem Tryz.prog 115 (.agg (sgcells ⟨0, 0, 0, 0⟩)) 4 32 := ⟨by kernel_rfl, rfl, by decide⟩
def OwnSg (w : World) (base : Nat) (A : Option Addr) (ls : List Sg) (c : Nat) : Prop := w.ownsRow base 115 4 (.slice A ls.length c) ls.length (sgCells ls)
theorem OwnSg.rd {w : World} {base : Nat} {A : Option Addr} {c : Nat} {ls : List Sg} (h : OwnSg w base A ls c) : SgRd w A ls := RdN.of_own h
theorem own_noSg (w : World) : (w.alloc (.cells #[] 115)).ownsRow w.heap.size 115 4 (.slice (some ⟨w.heap.size, 0, none⟩) 0 0) 0 [] := own_new w w.heap.size #[] _ 0 (Nat.le_refl _) (by decide) rfl
theorem sown_cap {w : World} {base : Nat} {A : Option Addr} {c : Nat} {ls : List Sg} (h : OwnSg w base A ls c) : ls.length ≤ c ∧ c ≤ 9223372036854775807 := by
  rcases h.2 with ⟨h1, h2⟩ | ⟨g, cap, cur, h1, h2, h3, h4, h5, _⟩
  · injection h1 with h3 h4 h5
    omega
  · injection h1 with h6 h7 h8
    simp only [maxLen] at h5
    omega
theorem sown_form {w : World} {base : Nat} {A : Option Addr} {c : Nat} {ls : List Sg} (h : OwnSg w base A ls c) (h0 : 0 < ls.length) : ∃ g cur, A = some ⟨g, 0, none⟩ ∧ base ≤ g ∧ Blk w g 115 cur ∧ cur.size = c * 4 ∧ ∀ j, j < ls.length * 4 → cur[j]? = (sgCells ls)[j]? := by
  rcases h.2 with ⟨h1, h2⟩ | ⟨g, cap, cur, h1, h2, h3, h4, h5, h6, h7⟩
  · omega
  · injection h1 with h8 h9 h10
    subst h8 h10
    refine ⟨g, cur, rfl, h2, h3, h6, fun j hj => ?_⟩
    rw [← h7, List.getElem?_take, if_pos hj, Array.getElem?_toList]
def SNotOwn (A : Option Addr) (g : Nat) : Prop := ∀ n c, (Value.slice A n c).ownBlock ≠ some g
theorem sown_apart {w : World} {base g c : Nat} {A : Option Addr} {ls : List Sg} {cs : Array Value} (h : OwnSg w base A ls c) (hb : Blk w g 77 cs) : SNotOwn A g := by
  intro n c2
  rcases h.2 with ⟨h1, h2⟩ | ⟨g', cap, cur, h1, h2, h3, _⟩
  · injection h1 with h3 h4 h5
    subst h3
    intro hc; cases hc
  · injection h1 with h5 h6 h7
    subst h5
    intro he
    obtain rfl : g' = g := Option.some.inj he
    have h4 : w.heap[g']? = some (.cells cur 115) := h3
    have h5 : w.heap[g']? = some (.cells cs 77) := hb
    rw [h5] at h4
    cases h4
theorem sown_less {w : World} {b1 b2 c : Nat} {A : Option Addr} {ls : List Sg} (h : OwnSg w b1 A ls c) (hb : b2 ≤ b1) : OwnSg w b2 A ls c := by
  refine ⟨h.1, ?_⟩
  rcases h.2 with h1 | ⟨g, cap, cur, h1, h2, h3⟩
  · exact .inl h1
  · exact .inr ⟨g, cap, cur, h1, Nat.le_trans hb h2, h3⟩
theorem srd_one {w : World} {vb : Nat} {l : Sg} (hv : Blk w vb 115 (sgcells l)) : RdN w 4 (some ⟨vb, 0, none⟩) 1 (sgcells l).toList :=
  ⟨rfl, fun _ => ⟨vb, 0, rfl, fun j u hu => by rw [Nat.zero_add, hv.cell]; simpa using hu⟩⟩
def mfcells (m : Mf) (A : Option Addr) (c : Nat) : Array Value := #[.int .i64 m.gen, .int .i64 m.next, .int .i64 m.floor, .int .i64 m.snap, .int .i64 m.snapSeq, .slice A m.segs.length c]
theorem mf_wide : Wide Tryz.prog 25 6 := ⟨⟨_, Tryz.underlying25, rfl⟩, by kernel_rfl⟩
theorem mf_size (m : Mf) (A : Option Addr) (c : Nat) : (mfcells m A c).size = 6 := rfl
theorem mf_one (m : Mf) (A : Option Addr) (c : Nat) : ∀ v ∈ (mfcells m A c).toList, v.oneCell' = true := by
  intro v hv; simp [mfcells] at hv; rcases hv with rfl | rfl | rfl | rfl | rfl | rfl <;> rfl
open Go.ChangeShapes Go.WideShapes Go.Deep
section
variable {H : Type} {P : Program}
def MSz (P : Program) (t : TypeId) (d : DataW H) : Prop := ∀ n ∈ d.weights P t, n ≤ reachBytes
theorem msz_of {ts : List TypeId} {ds : List (DataW H)} (h : (DataW.weightsEach P ts ds).all (· ≤ reachBytes) = true) {j : Nat} {t : TypeId} {d : DataW H} (ht : ts[j]? = some t) (hd : ds[j]? = some d) : MSz P t d := fun n hn => by
  simpa using List.all_eq_true.1 h n (DataW.weights_mem_each ht hd n hn)
theorem mall_mem {e : TypeId} {l : List (DataW H)} {d : DataW H} (hd : d ∈ l) : ∀ n ∈ d.weights P e, n ∈ DataW.weightsAll P e l := by
  induction l with
  | nil => cases hd
  | cons x r ih =>
    intro n hn
    rw [DataW.weightsAll, List.mem_append]
    rcases List.mem_cons.1 hd with rfl | hd
    · exact .inl hn
    · exact .inr (ih hd n hn)
theorem msz_slice {t e : TypeId} {el sp : List (DataW H)} (h : MSz P t (.slice el sp)) (hu : P.underlying t = some (.slice e)) : (el.length + sp.length) * P.bytesOf e ≤ reachBytes ∧ ∀ d ∈ el, MSz P e d := by
  have hw : (DataW.slice el sp : DataW H).weights P t = (el.length + sp.length) * P.bytesOf e :: (DataW.weightsAll P e el ++ DataW.weightsAll P e sp) := by rw [DataW.weights, hu]
  refine ⟨h _ (by rw [hw]; exact List.mem_cons_self ..), fun d hd n hn => h n ?_⟩
  rw [hw]
  exact List.mem_cons_of_mem _ (List.mem_append_left _ (mall_mem hd n hn))
theorem msz_agg {t : TypeId} {fs : Array Field} {parts : List (DataW H)} (h : MSz P t (.agg parts)) (hu : P.underlying t = some (.struct fs)) {j : Nat} {f : Field} {d : DataW H} (hf : fs[j]? = some f) (hd : parts[j]? = some d) : MSz P f.type d := fun n hn => by
  refine h n ?_
  have hw : (DataW.agg parts : DataW H).weights P t = DataW.weightsEach P (fs.toList.map (·.type)) parts := by rw [DataW.weights, hu]
  rw [hw]
  exact DataW.weights_mem_each (j := j) (by simp [hf]) hd n hn
theorem mchoose_list {α : Type} {p : Nat → α → Prop} (n : Nat) (h : ∀ i, i < n → ∃ x, p i x) : ∃ l : List α, l.length = n ∧ ∀ i x, l[i]? = some x → p i x := by
  induction n with
  | zero => exact ⟨[], rfl, fun i x hx => by simp at hx⟩
  | succ n ih =>
    obtain ⟨l, hl, hp⟩ := ih fun i hi => h i (by omega)
    obtain ⟨x, hx⟩ := h n (by omega)
    refine ⟨l ++ [x], by simp [hl], fun i y hy => ?_⟩
    by_cases hi : i < n
    · rw [List.getElem?_append_left (by omega)] at hy
      exact hp i y hy
    · rw [List.getElem?_append_right (by omega)] at hy
      have : i = n := by
        have := (List.getElem?_eq_some_iff.1 hy).1
        simp at this
        omega
      subst this
      simp [hl] at hy
      subst hy
      exact hx
end
theorem maddr_add (b o j : Nat) : (⟨b, o, none⟩ : Addr).add j = ⟨b, o + j, none⟩ := by by_cases h : j = 0 <;> simp [Addr.add, h]
theorem maddr_spot {w : World} {x : Addr} {v : Value} (h : w.cell? (x.add 0) = some v) : ∃ b o, x = ⟨b, o, none⟩ := by
  obtain ⟨b, o, sp⟩ := x
  have hsp : sp = none := by simpa [Addr.add] using World.cell?_spot h
  subst hsp
  exact ⟨b, o, rfl⟩
section
variable {H : Type} {enc : TypeId × Value → H} {w : World} {base : Nat} {spare : Nat → Bool} {held : Bool}
theorem okWide_ag {P : Program} {W : World} {r : Reach} {b : Nat} {t : TypeId} {fs : Array Field} {v : Value} (hu : P.underlying t = some (.struct fs)) (h : Value.okWide P W r b t v) : ∃ cs, v = .agg cs := by
  unfold Value.okWide at h
  rw [hu] at h
  obtain ⟨cs, h, _⟩ := h
  exact ⟨cs, h⟩
def MI64 (x : Int) : Prop := -9223372036854775808 ≤ x ∧ x ≤ 9223372036854775807
theorem mi64_of {x : Int} (h : (Lit.int .i64 x).wf = true) : MI64 x := by
  simp [Lit.wf, IntKind.min, IntKind.max, IntKind.signed, IntKind.bits] at h; exact h
def SgWf (l : Sg) : Prop := MI64 l.num ∧ MI64 l.first ∧ MI64 l.count ∧ MI64 l.foot
set_option maxRecDepth 100000 in
set_option maxHeartbeats 1000000 in
theorem open_sg {fuel : Nat} {cs : List Value} {y : DataW H × List MemPlace} (h : DataW.trod enc Tryz.prog w base spare held fuel 115 cs = some y) (hs : MSz Tryz.prog 115 y.1) :
    ∃ l, cs = (sgcells l).toList ∧ SgWf l := by
  obtain ⟨ys, n, _, rfl, hlen, hyl, hf⟩ := DataW.trod_struct Tryz.underlying115 h
  have hC : Tryz.prog.cellsOf 115 = 4 := by kernel_rfl
  have k0 : Tryz.prog.cellsOf 3 = 1 := by kernel_rfl
  rw [hC] at hlen
  match cs, hlen with
  | [c0, c1, c2, c3], _ =>
    match ys, hyl with
    | [y0, y1, y2, y3], _ =>
      have h0 : DataW.trod enc Tryz.prog w base spare held n 3 (List.take (Tryz.prog.cellsOf 3) [c0, c1, c2, c3]) = some y0 := hf 0 _ rfl
      have h1 : DataW.trod enc Tryz.prog w base spare held n 3 (List.take (Tryz.prog.cellsOf 3) [c1, c2, c3]) = some y1 := hf 1 _ rfl
      have h2 : DataW.trod enc Tryz.prog w base spare held n 3 (List.take (Tryz.prog.cellsOf 3) [c2, c3]) = some y2 := hf 2 _ rfl
      have h3 : DataW.trod enc Tryz.prog w base spare held n 3 (List.take (Tryz.prog.cellsOf 3) [c3]) = some y3 := hf 3 _ rfl
      rw [k0] at h0
      rw [k0] at h1
      rw [k0] at h2
      rw [k0] at h3
      obtain ⟨m0, e0, _, w0⟩ := DataW.trod_int Tryz.underlying3 h0
      obtain ⟨m1, e1, _, w1⟩ := DataW.trod_int Tryz.underlying3 h1
      obtain ⟨m2, e2, _, w2⟩ := DataW.trod_int Tryz.underlying3 h2
      obtain ⟨m3, e3, _, w3⟩ := DataW.trod_int Tryz.underlying3 h3
      simp at e0 e1 e2 e3
      subst e0 e1 e2 e3
      exact ⟨⟨m0, m1, m2, m3⟩, rfl, mi64_of w0, mi64_of w1, mi64_of w2, mi64_of w3⟩
set_option maxRecDepth 100000 in
theorem open_segs {fuel : Nat} {v : Value} {y : DataW H × List MemPlace} (h : DataW.trod enc Tryz.prog w base spare held fuel 23 [v] = some y) (hs : MSz Tryz.prog 23 y.1) :
    ∃ A c ls, v = .slice A (ls : List Sg).length c ∧ SgRd w A ls ∧ ls.length * 32 ≤ 140737488351232 ∧ ∀ l ∈ ls, SgWf l := by
  rcases open_slice Tryz.underlying23 h with ⟨hcs, _⟩ | ⟨x, n, c, m, k, D, Pl, hcs, _, hl, hm, hmm, rfl, hi⟩
  · simp at hcs
    exact ⟨none, 0, [], hcs, RdN.nil_ _ _ _, (by simp), (fun l hl => by cases hl)⟩
  · simp at hcs
    have hC : Tryz.prog.cellsOf 115 = 4 := by kernel_rfl
    have hB : Tryz.prog.bytesOf 115 = 32 := by kernel_rfl
    rw [hC] at hi
    obtain ⟨z1, z2⟩ := msz_slice hs Tryz.underlying23
    rw [hB] at z1
    simp only [List.length_map, List.length_range, reachBytes] at z1
    have hnm : n ≤ m := by rw [hmm]; split <;> omega
    obtain ⟨gs, hl2, hp⟩ := mchoose_list (α := Sg) (p := fun i l => (∀ j u, (sgcells l).toList[j]? = some u → w.cell? ((x.add (i * 4)).add j) = some u) ∧ SgWf l) n fun i hin => by
      obtain ⟨cs, hc, ht⟩ := hi i (by omega)
      obtain ⟨_, hcl, hat⟩ := World.cells?_some hc
      obtain ⟨l, rfl, hw⟩ := open_sg ht (z2 (D i) (by simp; exact ⟨i, hin, rfl⟩))
      exact ⟨l, fun j u hu => by
        have hj : j < 4 := by have := (List.getElem?_eq_some_iff.1 hu).1; simpa [sgcells] using this
        rw [hat j hj]; exact hu, hw⟩
    subst hl2
    refine ⟨some x, c, gs, hcs, ⟨sgCells_len gs, fun h0 => ?_⟩, by omega, fun l hl => ?_⟩
    · have h1 := (hp 0 gs[0] (List.getElem?_eq_getElem (by omega))).1 0 _ rfl
      obtain ⟨b, o, rfl⟩ := maddr_spot (x := x) (by rw [Nat.zero_mul] at h1; exact h1)
      refine ⟨b, o, rfl, fun j u hu => ?_⟩
      have hj : j < gs.length * 4 := by
        have := (List.getElem?_eq_some_iff.1 hu).1
        rw [sgCells_len] at this
        omega
      have hg : gs[j / 4]? = some gs[j / 4] := List.getElem?_eq_getElem (by omega)
      have h2 := sgCells_at gs (j / 4) (j % 4) _ hg (by omega)
      rw [show j / 4 * 4 + j % 4 = j by omega, hu] at h2
      have h3 := (hp (j / 4) _ hg).1 (j % 4) u h2.symm
      rw [maddr_add, maddr_add, show o + j / 4 * 4 + j % 4 = o + j by omega] at h3
      exact h3
    · obtain ⟨i, hi2⟩ := List.mem_iff_getElem?.1 hl
      exact (hp i l hi2).2
def MfWf (m : Mf) : Prop := (MI64 m.gen ∧ MI64 m.next ∧ MI64 m.floor ∧ MI64 m.snap ∧ MI64 m.snapSeq) ∧ m.segs.length ≤ 4398046510976 ∧ ∀ g ∈ m.segs, SgWf g
set_option maxRecDepth 100000 in
set_option maxHeartbeats 1000000 in
theorem open_mf {fuel : Nat} {cs : List Value} {y : DataW H × List MemPlace} (h : DataW.trod enc Tryz.prog w base spare held fuel 25 cs = some y) (hs : MSz Tryz.prog 25 y.1) :
    ∃ m A c, cs = (mfcells m A c).toList ∧ SgRd w A m.segs ∧ MfWf m := by
  obtain ⟨ys, n, _, rfl, hlen, hyl, hf⟩ := DataW.trod_struct Tryz.underlying25 h
  have hC : Tryz.prog.cellsOf 25 = 6 := by kernel_rfl
  have k0 : Tryz.prog.cellsOf 3 = 1 := by kernel_rfl
  have k1 : Tryz.prog.cellsOf 23 = 1 := by kernel_rfl
  rw [hC] at hlen
  match cs, hlen with
  | [c0, c1, c2, c3, c4, c5], _ =>
    match ys, hyl with
    | [y0, y1, y2, y3, y4, y5], _ =>
      have h0 : DataW.trod enc Tryz.prog w base spare held n 3 (List.take (Tryz.prog.cellsOf 3) [c0, c1, c2, c3, c4, c5]) = some y0 := hf 0 _ rfl
      have h1 : DataW.trod enc Tryz.prog w base spare held n 3 (List.take (Tryz.prog.cellsOf 3) [c1, c2, c3, c4, c5]) = some y1 := hf 1 _ rfl
      have h2 : DataW.trod enc Tryz.prog w base spare held n 3 (List.take (Tryz.prog.cellsOf 3) [c2, c3, c4, c5]) = some y2 := hf 2 _ rfl
      have h3 : DataW.trod enc Tryz.prog w base spare held n 3 (List.take (Tryz.prog.cellsOf 3) [c3, c4, c5]) = some y3 := hf 3 _ rfl
      have h4 : DataW.trod enc Tryz.prog w base spare held n 3 (List.take (Tryz.prog.cellsOf 3) [c4, c5]) = some y4 := hf 4 _ rfl
      have h5 : DataW.trod enc Tryz.prog w base spare held n 23 (List.take (Tryz.prog.cellsOf 23) [c5]) = some y5 := hf 5 _ rfl
      rw [k0] at h0 h1 h2 h3 h4
      rw [k1] at h5
      obtain ⟨m0, e0, _, w0⟩ := DataW.trod_int Tryz.underlying3 h0
      obtain ⟨m1, e1, _, w1⟩ := DataW.trod_int Tryz.underlying3 h1
      obtain ⟨m2, e2, _, w2⟩ := DataW.trod_int Tryz.underlying3 h2
      obtain ⟨m3, e3, _, w3⟩ := DataW.trod_int Tryz.underlying3 h3
      obtain ⟨m4, e4, _, w4⟩ := DataW.trod_int Tryz.underlying3 h4
      have hz : MSz Tryz.prog 23 y5.1 := msz_agg hs Tryz.underlying25 (j := 5) rfl rfl
      obtain ⟨A, c, ls, e5, r1, r2, r3⟩ := open_segs (v := c5) (by simpa using h5) hz
      simp at e0 e1 e2 e3 e4
      subst e0 e1 e2 e3 e4 e5
      exact ⟨⟨m0, m1, m2, m3, m4, ls⟩, A, c, rfl, r1, ⟨mi64_of w0, mi64_of w1, mi64_of w2, mi64_of w3, mi64_of w4⟩, by dsimp only; omega, r3⟩
end
end Go.Proofs.YtjajbbgebblalaaGreatDoor

namespace Go.Proofs.YtjajbbgebblalaaGreatDoor
open Go.RowKit
set_option linter.unusedVariables false
set_option linter.unusedSimpArgs false
theorem sgCells_one1 (l : Sg) : sgCells [l] = (sgcells l).toList := by simp [sgCells]
theorem mown_of_cells {w : World} {base g c : Nat} {ls : List Sg} {cur : Array Value} (hg : base ≤ g) (hb : Blk w g 115 cur) (hc : ls.length ≤ c) (hm : c ≤ maxLen) (hs : cur.size = c * 4) (h : cur.toList.take (ls.length * 4) = sgCells ls) : OwnSg w base (some ⟨g, 0, none⟩) ls c :=
  ⟨sgCells_len ls, .inr ⟨g, c, cur, rfl, hg, hb, hc, hm, hs, h⟩⟩
theorem mown_apart {w : World} {base g c : Nat} {A : Option Addr} {ls : List Sg} {cs : Array Value} (h : OwnSg w base A ls c) (hb : Blk w g 25 cs) : SNotOwn A g := by
  intro n c2
  rcases h.2 with ⟨h1, h2⟩ | ⟨g', cap, cur, h1, h2, h3, _⟩
  · injection h1 with h3 h4 h5
    subst h3
    intro hc; cases hc
  · injection h1 with h5 h6 h7
    subst h5
    intro he
    obtain rfl : g' = g := Option.some.inj he
    have h4 : w.heap[g']? = some (.cells cur 115) := h3
    have h5 : w.heap[g']? = some (.cells cs 25) := hb
    rw [h5] at h4
    cases h4
theorem MOwnSt {w : World} {base g c i : Nat} {u : Value} {A : Option Addr} {ls : List Sg} (hne : SNotOwn A g) (h : OwnSg w base A ls c) : OwnSg (w.setCell ⟨g, i, none⟩ u) base A ls c :=
  World.ownsRow.kept h (grown_set (World.grownBy.refl w (some g)) u) (.inr (hne _ _))
theorem MOwnA {w : World} {base c : Nat} {o : Obj} {A : Option Addr} {ls : List Sg} (h : OwnSg w base A ls c) : OwnSg (w.alloc o) base A ls c := World.ownsRow.alloc h o
theorem MOwnD {w : World} {base c : Nat} {A : Option Addr} {ls : List Sg} (h : OwnSg w base A ls c) : OwnSg w.drew base A ls c := h
theorem mf_size' (o s p u t : Int) (A : Option Addr) (n c : Nat) : (#[.int .i64 o, .int .i64 s, .int .i64 p, .int .i64 u, .int .i64 t, .slice A n c] : Array Value).size = 6 := rfl
theorem mf_one' (o s p u t : Int) (A : Option Addr) (n c : Nat) : ∀ v ∈ (#[.int .i64 o, .int .i64 s, .int .i64 p, .int .i64 u, .int .i64 t, .slice A n c] : Array Value).toList, v.oneCell' = true := by
  intro v hv; simp at hv; rcases hv with rfl | rfl | rfl | rfl | rfl | rfl <;> rfl
theorem MGrRow {a w : World} {g : Nat} {ds : Array Value} (h : a.grownBy w (some g)) : a.grownBy (w.setRow g ds) (some g) :=
  ⟨h.os, h.tape, h.output, by simpa [World.setRow] using h.size, fun k hk hne => by
    have := h.block k hk hne
    simp only [World.setRow, Array.getElem?_modify]
    rw [if_neg (by intro hc; exact hne (by rw [hc]))]
    exact this⟩
theorem MOwnRw {w : World} {base g c : Nat} {ds : Array Value} {A : Option Addr} {ls : List Sg} (hne : SNotOwn A g) (h : OwnSg w base A ls c) : OwnSg (w.setRow g ds) base A ls c :=
  World.ownsRow.kept h (MGrRow (World.grownBy.refl w (some g))) (.inr (hne _ _))
theorem mstep_append_own {P : Program} {ops : Array Oper} {o : Oper} {a : Act} {w : World} {K : Act → World → Prop} {Q : Exit → Act → World → Prop} {E : Prop}
    (hg : o.guard = none) (s x : Operand) (t : TypeId) (hop : o.op = Op.call { callee := Callee.builtin Builtin.append, args := #[s, x], argTypes := #[t, t] })
    (base : Nat) (e : TypeId) (z : Value) (size bytes : Nat) (h1 : P.underlying t = some (.slice e)) (he : Elem P e z size bytes)
    (v : Value) (n : Nat) (xs : List Value) (hs : a.eval s = v) (hown : w.ownsRow base e size v n xs)
    (ad : Addr) (m c : Nat) (news : List Value) (hx : a.eval x = .slice (some ad) m c) (hn : news.length = m * size) (hc : ∀ j u, news[j]? = some u → w.cell? (ad.add j) = some u) (h1c : ∀ u ∈ news, u.oneCell' = true)
    (b1 : n + m ≤ maxLen) (b2 : (n + m) * bytes ≤ 140737488355328) (hbase : base ≤ w.heap.size)
    (hK : ∀ v' w', w'.ownsRow base e size v' (n + m) (xs ++ news) → w.grownBy w' v.ownBlock → K (a.put o.dst v') w') :
    if Region.wanted o (yielded ops a.tmps) = true then Oper.wp P o a w K Q else E := by
  have hw : Region.wanted o (yielded ops a.tmps) = true := by simp [Region.wanted, hg]
  rw [if_pos hw]
  obtain ⟨i, h2, h3, h4, h5⟩ := info_parts he.1
  obtain ⟨v', w', hrun, r1, r2, _⟩ := run_append_own (P := P) w base t o.type e i z size bytes h1 h2 h3 h4 h5 he.2.1 he.2.2 v n xs hown ad m c news hn hc h1c b1 b2 hbase
  unfold Oper.wp
  simp [execOp, hop, resolve, invoke, builtin, hs, hx, hrun, Result.andThen]
  exact hK v' w' r1 r2
def McPost (w : World) (s : Mf) (e' : Ending) (w' : World) : Prop := ∃ A' c', e' = .returned (.agg (mfcells s A' c')) ∧ Ext w w' ∧ OwnSg w' w.heap.size A' s.segs c'
def McR (w : World) (s : Mf) (A : Option Addr) (c : Nat) (c11 : Value) (wr : World) : Prop :=
  ∃ (k : Nat) (A' : Option Addr) (c' : Nat), c11 = .int .i64 (k : Nat) ∧ k ≤ s.segs.length ∧ Ext w wr ∧ Blk wr w.heap.size 25 (mfcells s A c) ∧ Blk wr (w.heap.size + 1) 25 #[.int .i64 0, .int .i64 0, .int .i64 0, .int .i64 0, .int .i64 0, .slice none 0 0] ∧
    Blk wr (w.heap.size + 1 + 1) 25 (mfcells { s with segs := s.segs.take k } A' c') ∧ OwnSg wr w.heap.size A' (s.segs.take k) c'
theorem mtake_len {ls : List Sg} {k n : Nat} (h : k ≤ n) (hn : n = ls.length) : (ls.take k).length = k := by rw [List.length_take]; omega
set_option maxRecDepth 100000 in
set_option maxHeartbeats 4000000 in
theorem mcopy_any (s : Mf) (A : Option Addr) (c : Nat) (w : World) (hr : SgRd w A s.segs) (hl : s.segs.length ≤ 4398046511000) :
    Calls Tryz.prog 17 #[.agg (mfcells s A c)] w (McPost w s) := by
  obtain ⟨gen, next, floor, snap, snapSeq, ls⟩ := s
  unfold McPost
  have Hnn : Hid (∃ n, n = ls.length) := Lib.hid ⟨_, rfl⟩
  obtain ⟨n, hnn⟩ := Hnn.out
  have Hn := Lib.hid hnn
  clear Hnn
  unfold mfcells at *
  dsimp only at *
  rw [← hnn] at hl ⊢
  clear hnn
  go_enter Tryz.func17, Tryz.ntmps17
  go_wp2_with fail
  go_loopw [11] (fun c11 wr => McR w ⟨gen, next, floor, snap, snapSeq, ls⟩ A c c11 wr) (fun c11 _ => n - (intOf c11).toNat)
  case atStart => exact ⟨0, some ⟨w.heap.size + 1 + 1 + 1, 0, none⟩, 0, rfl, by omega, (by repeat (first | with_reducible exact Below.refl _ _ | with_reducible assumption | with_reducible refine ExtD ?_ | with_reducible refine ExtDN ?_ | with_reducible refine ExtA ?_ | (with_reducible refine ExtR ?_ ?_; (first | omega | (dsimp only; omega) | (simp; done) | (simp; omega))) | (with_reducible refine ExtS ?_ ?_; (first | omega | (dsimp only; omega) | (simp; done) | (simp; omega))) | with_reducible refine Ext.tr ?_ (by with_reducible assumption))), Blk_eq (cs := #[.int .i64 gen, .int .i64 next, .int .i64 floor, .int .i64 snap, .int .i64 snapSeq, .slice A n c]) (by repeat (first | with_reducible assumption | (with_reducible refine BlkN ?_; (first | rfl | (first | omega | (dsimp only; omega) | (simp; done) | (simp; omega)))) | with_reducible refine BlkD ?_ | with_reducible refine BlkDN ?_ | with_reducible refine BlkA ?_ | (with_reducible refine BlkF ?_ ?_; (first | omega | (dsimp only; omega) | (simp; done) | (simp; omega))) | with_reducible refine BlkE ?_ (by with_reducible assumption))) (by rw [Hn.out]; rfl), (by repeat (first | with_reducible assumption | (with_reducible refine BlkN ?_; (first | rfl | (first | omega | (dsimp only; omega) | (simp; done) | (simp; omega)))) | with_reducible refine BlkD ?_ | with_reducible refine BlkDN ?_ | with_reducible refine BlkA ?_ | (with_reducible refine BlkF ?_ ?_; (first | omega | (dsimp only; omega) | (simp; done) | (simp; omega))) | with_reducible refine BlkE ?_ (by with_reducible assumption))), Blk_eq (cs := #[.int .i64 gen, .int .i64 next, .int .i64 floor, .int .i64 snap, .int .i64 snapSeq, .slice (some ⟨w.heap.size + 1 + 1 + 1, 0, none⟩) 0 0]) (by repeat (first | with_reducible assumption | (with_reducible refine BlkN ?_; (first | rfl | (first | omega | (dsimp only; omega) | (simp; done) | (simp; omega)))) | with_reducible refine BlkD ?_ | with_reducible refine BlkDN ?_ | with_reducible refine BlkA ?_ | (with_reducible refine BlkF ?_ ?_; (first | omega | (dsimp only; omega) | (simp; done) | (simp; omega))) | with_reducible refine BlkE ?_ (by with_reducible assumption))) rfl, mown_of_cells (by omega) (cur := #[]) (by repeat (first | with_reducible assumption | (with_reducible refine BlkN ?_; (first | rfl | (first | omega | (dsimp only; omega) | (simp; done) | (simp; omega)))) | with_reducible refine BlkD ?_ | with_reducible refine BlkDN ?_ | with_reducible refine BlkA ?_ | (with_reducible refine BlkF ?_ ?_; (first | omega | (dsimp only; omega) | (simp; done) | (simp; omega))) | with_reducible refine BlkE ?_ (by with_reducible assumption))) (Nat.zero_le _) (by decide) rfl rfl⟩
  case round =>
    obtain ⟨k, A2, c2, rfl, hk, hx, hbS, hbR, hbT, ho⟩ := hrel
    dsimp only at hk hbT ho
    rw [← Hn.out] at hk
    by_cases hlt : k < n
    · have hk0 : (ls.take k).length = k := mtake_len hk Hn.out
      have hk1 : (ls.take (k + 1)).length = k + 1 := mtake_len (n := n) (by omega) Hn.out
      obtain ⟨b, o, rfl, hc⟩ := sg_at hr (show k < ls.length by rw [← Hn.out]; exact hlt)
      have Hc := Lib.hid (range_ext hc hx)
      have hts : sgCells (ls.take (k + 1)) = sgCells (ls.take k) ++ (sgcells (ls[k]'(by rw [← Hn.out]; exact hlt))).toList := by
        rw [List.take_succ_eq_append_getElem (by rw [← Hn.out]; exact hlt), sgCells_app, sgCells_one1]
      have H1 := Lib.hid (sg_one (ls[k]'(by rw [← Hn.out]; exact hlt)))
      clear hc
      generalize (ls[k]'(by rw [← Hn.out]; exact hlt)) = l at *
      obtain ⟨li, lp, lq, lsh⟩ := l
      unfold sgcells at Hc hts H1
      dsimp only at Hc hts H1
      have e0 : wr.cell? ⟨b, o + k * 4, none⟩ = some (.int .i64 li) := Hc.out 0 _ rfl
      have e1 : wr.cell? ⟨b, o + k * 4 + 1, none⟩ = some (.int .i64 lp) := Hc.out 1 _ rfl
      have e2 : wr.cell? ⟨b, o + k * 4 + 2, none⟩ = some (.int .i64 lq) := Hc.out 2 _ rfl
      have e3 : wr.cell? ⟨b, o + k * 4 + 3, none⟩ = some (.int .i64 lsh) := Hc.out 3 _ rfl
      have hbS5 : wr.cell? ⟨w.heap.size, 5, none⟩ = some (.slice (some ⟨b, o, none⟩) n c) := (hbS.cell 5).trans (by rw [Hn.out]; rfl)
      have hbT' : Blk wr (w.heap.size + 1 + 1) 25 #[.int .i64 gen, .int .i64 next, .int .i64 floor, .int .i64 snap, .int .i64 snapSeq, .slice A2 k c2] := Blk_eq hbT (by simp only [mfcells, hk0])
      have hbT5 : wr.cell? ⟨w.heap.size + 1 + 1, 5, none⟩ = some (.slice A2 k c2) := hbT'.cell 5
      have hA5 : ∀ ob, (wr.alloc ob).cell? ⟨w.heap.size + 1 + 1, 5, none⟩ = some (.slice A2 k c2) := fun ob => (BlkA hbT').cell 5
      have hap := mown_apart ho hbT
      have Hown2 : Hid (World.ownsRow ((wr.alloc (.cells #[.int .i64 li, .int .i64 lp, .int .i64 lq, .int .i64 lsh] 115)).drew) w.heap.size 115 4 (.slice A2 k c2) k (sgCells (ls.take k))) := Lib.hid (by have := MOwnD (MOwnA (o := .cells #[.int .i64 li, .int .i64 lp, .int .i64 lq, .int .i64 lsh] 115) ho); unfold OwnSg at this; rwa [hk0] at this)
      have hbT2 : Blk ((wr.alloc (.cells #[.int .i64 li, .int .i64 lp, .int .i64 lq, .int .i64 lsh] 115)).drew) (w.heap.size + 1 + 1) 25 #[.int .i64 gen, .int .i64 next, .int .i64 floor, .int .i64 snap, .int .i64 snapSeq, .slice A2 k c2] := BlkD (BlkA hbT')
      have hbL : Blk ((wr.alloc (.cells #[.int .i64 li, .int .i64 lp, .int .i64 lq, .int .i64 lsh] 115)).drew) wr.heap.size 115 #[.int .i64 li, .int .i64 lp, .int .i64 lq, .int .i64 lsh] := BlkD (BlkN rfl)
      have Hnw : Hid (∀ j u, (#[.int .i64 li, .int .i64 lp, .int .i64 lq, .int .i64 lsh] : Array Value).toList[j]? = some u → ((wr.alloc (.cells #[.int .i64 li, .int .i64 lp, .int .i64 lq, .int .i64 lsh] 115)).drew).cell? ((⟨wr.heap.size, 0, none⟩ : Addr).add j) = some u) := Lib.hid fun j u hu => by rw [Addr.add_lit, Nat.zero_add, hbL.cell]; simpa using hu
      have hN : w.heap.size ≤ wr.heap.size := hx.size
      have Hbs : Hid (w.heap.size ≤ ((wr.alloc (.cells #[.int .i64 li, .int .i64 lp, .int .i64 lq, .int .i64 lsh] 115)).drew).heap.size) := Lib.hid (by simp; omega)
      have hkn : (k : Int) < (n : Int) := by omega
      have mixed : Tryz.prog.follows Departure.mixedOrders = true := by kernel_rfl
      have HbR := Lib.hid hbR
      have HbS := Lib.hid hbS
      have Hts := Lib.hid hts
      have ho0 := ho
      clear hbR hbS hbT hbT' hts ho
      go_wp2_with fail
      go_region_law_o (refine mstep_append_own rfl (.tmp 15) (.tmp 21) 23 rfl w.heap.size 115 _ 4 32 Tryz.underlying23 el_sg (.slice A2 k c2) k (sgCells (ls.take k)) (by simp [Act.eval, Act.put]) Hown2.out ⟨wr.heap.size, 0, none⟩ 1 1 [.int .i64 li, .int .i64 lp, .int .i64 lq, .int .i64 lsh] (by simp [Act.eval, Act.put]) rfl Hnw.out H1.out (by simp only [maxLen]; omega) (by omega) Hbs.out ?_; intro v' w2 hown' hg'; obtain ⟨A3, c3, rfl⟩ := own_slice hown'; have q := BlkG hbT2 hg' (fun h => hap _ _ h.symm); have z1 := q.cell 5; have z2 := q.frozen 5)
      all_goals
        go_wp2_with fail
        refine And.intro ?_ ?_
        · have o3 : OwnSg w2 w.heap.size A3 (ls.take (k + 1)) c3 := by unfold OwnSg; rw [hk1, Hts.out]; exact hown'
          have hap3 := mown_apart o3 q
          have hX2 : Ext w w2 := Ext.grown (show Ext w ((wr.alloc (.cells #[.int .i64 li, .int .i64 lp, .int .i64 lq, .int .i64 lsh] 115)).drew) from (by repeat (first | with_reducible exact Below.refl _ _ | with_reducible assumption | with_reducible refine ExtD ?_ | with_reducible refine ExtDN ?_ | with_reducible refine ExtA ?_ | (with_reducible refine ExtR ?_ ?_; (first | omega | (dsimp only; omega) | (simp; done) | (simp; omega))) | (with_reducible refine ExtS ?_ ?_; (first | omega | (dsimp only; omega) | (simp; done) | (simp; omega))) | with_reducible refine Ext.tr ?_ (by with_reducible assumption)))) hg' (fun r hr2 => (World.ownsRow.lt Hown2.out r hr2).1)
          refine ⟨k + 1, A3, c3, by go_num, by have := Hn.out; dsimp only; omega, (by repeat (first | with_reducible exact Below.refl _ _ | with_reducible assumption | with_reducible refine ExtD ?_ | with_reducible refine ExtDN ?_ | with_reducible refine ExtA ?_ | (with_reducible refine ExtR ?_ ?_; (first | omega | (dsimp only; omega) | (simp; done) | (simp; omega))) | (with_reducible refine ExtS ?_ ?_; (first | omega | (dsimp only; omega) | (simp; done) | (simp; omega))) | with_reducible refine Ext.tr ?_ (by with_reducible assumption))), ?_, ?_, Blk_eq (BlkS q) (by simp only [mfcells, hk1]; rfl), MOwnSt hap3 o3⟩
          · exact BlkF (by dsimp only; omega) (BlkG (BlkD (BlkA HbS.out)) hg' (fun h => mown_apart ho0 HbS.out _ _ h.symm))
          · exact BlkF (by dsimp only; omega) (BlkG (BlkD (BlkA HbR.out)) hg' (fun h => mown_apart ho0 HbR.out _ _ h.symm))
        · simp [intOf]; omega
    · obtain rfl : k = n := by omega
      have htk : ls.take k = ls := List.take_of_length_le (by have := Hn.out; omega)
      rw [htk] at hbT ho
      have hbT' : Blk wr (w.heap.size + 1 + 1) 25 #[.int .i64 gen, .int .i64 next, .int .i64 floor, .int .i64 snap, .int .i64 snapSeq, .slice A2 k c2] := Blk_eq hbT (by simp only [mfcells]; rw [← Hn.out])
      have hap := mown_apart ho hbR
      go_wp2_with (first
        | (with_reducible refine wpL_load_row rfl 25 (.tmp 3) rfl _ 25 _ 6 rfl hbT' mf_wide (mf_size' _ _ _ _ _ _ _ _) ?_)
        | (with_reducible refine wpL_store_row rfl 25 (.tmp 2) (.tmp 25) rfl _ 25 _ _ rfl rfl hbR ((mf_size' _ _ _ _ _ _ _ _).trans (mf_size' _ _ _ _ _ _ _ _).symm) (mf_one' _ _ _ _ _ _ _ _) 6 mf_wide (mf_size' _ _ _ _ _ _ _ _) ?_))
      refine bodyPost_ret (res_row rfl _ _ _ 25 _ 6 rfl (Blk.setRow_ hbR) mf_wide rfl) rfl ?_
      exact ⟨A2, c2, rfl, (by repeat (first | with_reducible exact Below.refl _ _ | with_reducible assumption | with_reducible refine ExtD ?_ | with_reducible refine ExtDN ?_ | with_reducible refine ExtA ?_ | (with_reducible refine ExtR ?_ ?_; (first | omega | (dsimp only; omega) | (simp; done) | (simp; omega))) | (with_reducible refine ExtS ?_ ?_; (first | omega | (dsimp only; omega) | (simp; done) | (simp; omega))) | with_reducible refine Ext.tr ?_ (by with_reducible assumption))), MOwnRw hap ho⟩
def MsR (W : World) (n : Nat) (c91 : Value) (wr : World) : Prop := ∃ k : Nat, c91 = .int .i64 (k : Nat) ∧ k ≤ n ∧ Ext W wr
set_option maxRecDepth 100000 in
set_option maxHeartbeats 4000000 in
theorem msame_any (s : Mf) (A A2 : Option Addr) (c c2 : Nat) (w : World) (hr : SgRd w A s.segs) (hr2 : SgRd w A2 s.segs) (hl : s.segs.length ≤ 4611686018427387904) :
    Calls Tryz.prog 22 #[.agg (mfcells s A c), .agg (mfcells s A2 c2)] w fun e w' => e = .returned (.bool true) ∧ Ext w w' := by
  obtain ⟨gen, next, floor, snap, snapSeq, ls⟩ := s
  have Hnn : Hid (∃ n, n = ls.length) := Lib.hid ⟨_, rfl⟩
  obtain ⟨n, hnn⟩ := Hnn.out
  have Hn := Lib.hid hnn
  clear Hnn
  unfold mfcells at *
  dsimp only at *
  rw [← hnn] at hl ⊢
  clear hnn
  go_enter Tryz.func22, Tryz.ntmps22
  go_wp2_with fail
  obtain ⟨W, hW⟩ : ∃ W, W = (w.alloc (.cells #[.int .i64 gen, .int .i64 next, .int .i64 floor, .int .i64 snap, .int .i64 snapSeq, .slice A n c] 25)).alloc (.cells #[.int .i64 gen, .int .i64 next, .int .i64 floor, .int .i64 snap, .int .i64 snapSeq, .slice A2 n c2] 25) := ⟨_, rfl⟩
  have hXW : Ext w W := by rw [hW]; exact (by repeat (first | with_reducible exact Below.refl _ _ | with_reducible assumption | with_reducible refine ExtD ?_ | with_reducible refine ExtDN ?_ | with_reducible refine ExtA ?_ | (with_reducible refine ExtR ?_ ?_; (first | omega | (dsimp only; omega) | (simp; done) | (simp; omega))) | (with_reducible refine ExtS ?_ ?_; (first | omega | (dsimp only; omega) | (simp; done) | (simp; omega))) | with_reducible refine Ext.tr ?_ (by with_reducible assumption)))
  have hB1 : Blk W w.heap.size 25 #[.int .i64 gen, .int .i64 next, .int .i64 floor, .int .i64 snap, .int .i64 snapSeq, .slice A n c] := by rw [hW]; exact (by repeat (first | with_reducible assumption | (with_reducible refine BlkN ?_; (first | rfl | (first | omega | (dsimp only; omega) | (simp; done) | (simp; omega)))) | with_reducible refine BlkD ?_ | with_reducible refine BlkDN ?_ | with_reducible refine BlkA ?_ | (with_reducible refine BlkF ?_ ?_; (first | omega | (dsimp only; omega) | (simp; done) | (simp; omega))) | with_reducible refine BlkE ?_ (by with_reducible assumption)))
  have hB2 : Blk W (w.heap.size + 1) 25 #[.int .i64 gen, .int .i64 next, .int .i64 floor, .int .i64 snap, .int .i64 snapSeq, .slice A2 n c2] := by rw [hW]; exact (by repeat (first | with_reducible assumption | (with_reducible refine BlkN ?_; (first | rfl | (first | omega | (dsimp only; omega) | (simp; done) | (simp; omega)))) | with_reducible refine BlkD ?_ | with_reducible refine BlkDN ?_ | with_reducible refine BlkA ?_ | (with_reducible refine BlkF ?_ ?_; (first | omega | (dsimp only; omega) | (simp; done) | (simp; omega))) | with_reducible refine BlkE ?_ (by with_reducible assumption)))
  rw [← hW]
  clear hW
  go_loopw [5, 51] (fun _ c91 wr => MsR W n c91 wr) (fun _ c91 _ => n - (intOf c91).toNat)
  case atStart => exact ⟨0, rfl, by omega, Below.refl _ _⟩
  case round =>
    obtain ⟨k, rfl, hk, hx⟩ := hrel
    by_cases hlt : k < n
    · obtain ⟨b, o, rfl, hc⟩ := sg_at hr (show k < ls.length by rw [← Hn.out]; exact hlt)
      obtain ⟨b2, o2, rfl, hc2⟩ := sg_at hr2 (show k < ls.length by rw [← Hn.out]; exact hlt)
      have Hc := Lib.hid (range_ext hc (hXW.tr hx))
      have Hc2 := Lib.hid (range_ext hc2 (hXW.tr hx))
      clear hc hc2
      generalize (ls[k]'(by rw [← Hn.out]; exact hlt)) = l at *
      obtain ⟨li, lp, lq, lsh⟩ := l
      unfold sgcells at Hc Hc2
      dsimp only at Hc Hc2
      have e0 : wr.cell? ⟨b, o + k * 4, none⟩ = some (.int .i64 li) := Hc.out 0 _ rfl
      have e1 : wr.cell? ⟨b, o + k * 4 + 1, none⟩ = some (.int .i64 lp) := Hc.out 1 _ rfl
      have e2 : wr.cell? ⟨b, o + k * 4 + 2, none⟩ = some (.int .i64 lq) := Hc.out 2 _ rfl
      have e3 : wr.cell? ⟨b, o + k * 4 + 3, none⟩ = some (.int .i64 lsh) := Hc.out 3 _ rfl
      have f0 : wr.cell? ⟨b2, o2 + k * 4, none⟩ = some (.int .i64 li) := Hc2.out 0 _ rfl
      have f1 : wr.cell? ⟨b2, o2 + k * 4 + 1, none⟩ = some (.int .i64 lp) := Hc2.out 1 _ rfl
      have f2 : wr.cell? ⟨b2, o2 + k * 4 + 2, none⟩ = some (.int .i64 lq) := Hc2.out 2 _ rfl
      have f3 : wr.cell? ⟨b2, o2 + k * 4 + 3, none⟩ = some (.int .i64 lsh) := Hc2.out 3 _ rfl
      have a5 : wr.cell? ⟨w.heap.size, 5, none⟩ = some (.slice (some ⟨b, o, none⟩) n c) := (BlkE hB1 hx).cell 5
      have b5 : wr.cell? ⟨w.heap.size + 1, 5, none⟩ = some (.slice (some ⟨b2, o2, none⟩) n c2) := (BlkE hB2 hx).cell 5
      have hkn : (k : Int) < (n : Int) := by omega
      go_wp2_with fail
      all_goals try go_region
      all_goals (go_wp2_with fail)
      refine And.intro ?_ ?_
      · exact ⟨k + 1, by go_num, by omega, (by repeat (first | with_reducible exact Below.refl _ _ | with_reducible assumption | with_reducible refine ExtD ?_ | with_reducible refine ExtDN ?_ | with_reducible refine ExtA ?_ | (with_reducible refine ExtR ?_ ?_; (first | omega | (dsimp only; omega) | (simp; done) | (simp; omega))) | (with_reducible refine ExtS ?_ ?_; (first | omega | (dsimp only; omega) | (simp; done) | (simp; omega))) | with_reducible refine Ext.tr ?_ (by with_reducible assumption)))⟩
      · simp [intOf]; omega
    · obtain rfl : k = n := by omega
      go_wp2_with fail
      go_ret
      exact ⟨rfl, (by repeat (first | with_reducible exact Below.refl _ _ | with_reducible assumption | with_reducible refine ExtD ?_ | with_reducible refine ExtDN ?_ | with_reducible refine ExtA ?_ | (with_reducible refine ExtR ?_ ?_; (first | omega | (dsimp only; omega) | (simp; done) | (simp; omega))) | (with_reducible refine ExtS ?_ ?_; (first | omega | (dsimp only; omega) | (simp; done) | (simp; omega))) | with_reducible refine Ext.tr ?_ (by with_reducible assumption)))⟩
end Go.Proofs.YtjajbbgebblalaaGreatDoor
