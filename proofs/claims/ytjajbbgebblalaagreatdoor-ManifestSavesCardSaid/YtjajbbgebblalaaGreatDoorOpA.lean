/-
  Calls as values (daybookref10.Op) in memory.
-/
/-
  Arguments opened, chapter 10: lists of bytes, of ints, files, calls.
-/
import Derived.Test.YtjajbbgebblalaaGreatDoorFsT
import Derived.Test.YtjajbbgebblalaaGreatDoorOpenG
namespace Go.Proofs.YtjajbbgebblalaaGreatDoor
open Go.RowKit
set_option linter.unusedVariables false
set_option linter.unusedSimpArgs false
structure Op10 where
  k : Int
  name : ByteArray
  tgt : ByteArray
  b : List UInt8
  n : Int
  m : Int
  keep : List Int
abbrev HO := Op10 × (Option Addr × Nat) × (Option Addr × Nat)
def opcells (h : HO) : Array Value := #[.int .i64 h.1.k, .string h.1.name, .string h.1.tgt, .slice h.2.1.1 h.1.b.length h.2.1.2, .int .i64 h.1.n, .int .i64 h.1.m, .slice h.2.2.1 h.1.keep.length h.2.2.2]
def OpOk (w : World) (h : HO) : Prop := (Rd w h.2.1.1 h.1.b.length (u8s h.1.b) ∧ h.1.b.length ≤ 140737488351232) ∧ (Rd w h.2.2.1 h.1.keep.length (ints h.1.keep) ∧ h.1.keep.length * 8 ≤ 140737488351232 ∧ ∀ x ∈ h.1.keep, IsI64 x) ∧ IsI64 h.1.k ∧ IsI64 h.1.n ∧ IsI64 h.1.m
theorem OpOk.ext {w w' : World} {h : HO} (ho : OpOk w h) (hx : Ext w w') : OpOk w' h := ⟨⟨ho.1.1.ext hx, ho.1.2⟩, ⟨ho.2.1.1.ext hx, ho.2.1.2⟩, ho.2.2⟩
def OpsRd (w : World) (A : Option Addr) (hs : List HO) : Prop := RdN w 7 A hs.length (hs.flatMap fun h => (opcells h).toList) ∧ ∀ h ∈ hs, OpOk w h
theorem OpsRd.ext {w w' : World} {A : Option Addr} {hs : List HO} (h : OpsRd w A hs) (hx : Ext w w') : OpsRd w' A hs := ⟨h.1.ext hx, fun g hg => (h.2 g hg).ext hx⟩
theorem op_at {w : World} {A : Option Addr} {hs : List HO} (h : OpsRd w A hs) {k : Nat} (hk : k < hs.length) :
    ∃ b o x, A = some ⟨b, o, none⟩ ∧ hs[k]? = some x ∧ w.rangeAt b (o + k * 7) (opcells x).toList ∧ OpOk w x := by
  obtain ⟨b, o, e, hc⟩ := h.1.2 (by omega)
  have hg : hs[k]? = some hs[k] := List.getElem?_eq_getElem hk
  refine ⟨b, o, hs[k], e, hg, fun j v hv => ?_, h.2 _ (List.getElem_mem _)⟩
  have hj : j < 7 := by
    have := (List.getElem?_eq_some_iff.1 hv).1
    simpa [opcells] using this
  rw [Nat.add_assoc]
  exact hc _ _ (by rw [flat_at (k := 7) _ (fun _ => rfl) hs k j _ hg hj]; exact hv)
theorem op_wide : Wide Tryz.prog 44 7 := ⟨⟨_, Tryz.underlying44, rfl⟩, by kernel_rfl⟩
theorem opcells_one (h : HO) : ∀ u ∈ (opcells h).toList, u.oneCell' = true := fun u hu => by
  simp only [opcells, List.mem_cons, List.not_mem_nil, or_false] at hu
  rcases hu with rfl | rfl | rfl | rfl | rfl | rfl | rfl <;> rfl
theorem opcells_size (h : HO) : (opcells h).size = 7 := rfl
def noOp : HO := (⟨0, ⟨#[]⟩, ⟨#[]⟩, [], 0, 0, []⟩, (none, 0), (none, 0))
theorem alloc_op (w : World) : (Instr.alloc 44 true (.tuple #[])).run Tryz.prog w = .ok (.pointer (some ⟨w.heap.size, 0, none⟩)) (w.alloc (.cells (opcells noOp) 44)) := by kernel_rfl
section
variable {w : World}
theorem wpL_load_op {ops : Array Oper} {rest : List Oper} {op : Oper} {a : Act} {Q : Exit → Act → World → Prop} (hgd : op.guard = none) (x : Operand) (ho : op.op = .load 44 x)
    (b o : Nat) (hx : a.eval x = .pointer (some ⟨b, o, none⟩)) (h : HO) (hc : w.rangeAt b o (opcells h).toList)
    (hK : wpList Tryz.prog ops Q rest (a.put op.dst (.agg (opcells h))) w) : wpList Tryz.prog ops Q (op :: rest) a w := by
  obtain ⟨⟨d, hu, hd⟩, hi⟩ := op_wide
  exact wpList_load_mid hgd 44 x ho b o hx (opcells h).toList d hc hu (by revert hd; cases d <;> simp [TypeDesc.isRow]) (by rw [Array.length_toList, opcells_size]; exact hi) hK
end
end Go.Proofs.YtjajbbgebblalaaGreatDoor

namespace Go.Proofs.YtjajbbgebblalaaGreatDoor
open Go.RowKit
set_option linter.unusedVariables false
set_option linter.unusedSimpArgs false
open Go.ChangeShapes Go.WideShapes Go.Deep
section
variable {H : Type} {enc : TypeId × Value → H} {w : World} {base : Nat} {spare : Nat → Bool} {held : Bool}
theorem i64_of {x : Int} (h : (Lit.int .i64 x).wf = true) : IsI64 x := by
  simp [Lit.wf, IntKind.min, IntKind.max, IntKind.signed, IntKind.bits] at h
  exact h
theorem flat_one {α β : Type} (f : α → β) (gs : List α) : gs.flatMap (fun a => [f a]) = gs.map f := by
  induction gs with
  | nil => rfl
  | cons a r ih => rw [List.flatMap_cons, ih]; rfl
theorem single {fuel : Nat} {t e : TypeId} {cs : List Value} {y : DataW H × List MemPlace} (hu : Tryz.prog.underlying t = some (.slice e)) (h : DataW.trod enc Tryz.prog w base spare held fuel t cs = some y) : ∃ v, cs = [v] := by
  rcases DataW.trod_slice hu h with ⟨rfl, _⟩ | ⟨a, len, cap, _, _, _, _, rfl, _⟩
  · exact ⟨_, rfl⟩
  · exact ⟨_, rfl⟩
theorem open_intl {fuel : Nat} {cs : List Value} {y : DataW H × List MemPlace} (h : DataW.trod enc Tryz.prog w base spare held fuel 42 cs = some y) (hs : Sz Tryz.prog 42 y.1) :
    ∃ g : HI, cs = [.slice g.2.1 g.1.length g.2.2] ∧ Rd w g.2.1 g.1.length (ints g.1) ∧ g.1.length * 8 ≤ 140737488351232 ∧ ∀ x ∈ g.1, IsI64 x := by
  obtain ⟨v, rfl⟩ := single Tryz.underlying42 h
  obtain ⟨A, c, gs, e, hr, hb, hp, _⟩ := open_row (k := 1) (bts := 8) Tryz.underlying42 (by kernel_rfl) (by kernel_rfl) (by decide) (fun x : Int => [Value.int .i64 x]) (fun _ => rfl) IsI64 (fun fuel cs y h _ => by
    obtain ⟨x, e, h1⟩ := open_num h
    exact ⟨x, e, h1⟩) h hs
  rw [flat_one] at hr
  exact ⟨(gs, A, c), by rw [e], hr.to1, hb, hp⟩
theorem open_u8l {fuel : Nat} {cs : List Value} {y : DataW H × List MemPlace} (h : DataW.trod enc Tryz.prog w base spare held fuel 36 cs = some y) (hs : Sz Tryz.prog 36 y.1) :
    ∃ g : HB, cs = [.slice g.2.1 g.1.length g.2.2] ∧ Rd w g.2.1 g.1.length (u8s g.1) ∧ g.1.length ≤ 140737488351232 := by
  obtain ⟨v, rfl⟩ := single Tryz.underlying36 h
  obtain ⟨A, n, c, l, rfl, hr, _, hn⟩ := open_bytes h hs
  have hl : l.length = n := by have := hr.1; rw [u8s_len] at this; exact this
  subst hl
  exact ⟨(l, A, c), rfl, hr, hn⟩
set_option maxRecDepth 100000 in
theorem open_file {fuel : Nat} {cs : List Value} {y : DataW H × List MemPlace} (h : DataW.trod enc Tryz.prog w base spare held fuel 58 cs = some y) (hs : Sz Tryz.prog 58 y.1) :
    ∃ g : HV, cs = (flcells g.1 g.2.1 g.2.2).toList ∧ Rd w g.2.1 g.1.data.length (u8s g.1.data) ∧ g.1.data.length ≤ 140737488351232 ∧ IsI64 g.1.safe := by
  obtain ⟨ys, n, _, rfl, hlen, hyl, hf⟩ := DataW.trod_struct Tryz.underlying58 h
  have hC : Tryz.prog.cellsOf 58 = 3 := by kernel_rfl
  have k0 : Tryz.prog.cellsOf 9 = 1 := by kernel_rfl
  have k1 : Tryz.prog.cellsOf 36 = 1 := by kernel_rfl
  have k2 : Tryz.prog.cellsOf 3 = 1 := by kernel_rfl
  rw [hC] at hlen
  match cs, hlen with
  | [c0, c1, c2], _ =>
    match ys, hyl with
    | [y0, y1, y2], _ =>
      have h0 : DataW.trod enc Tryz.prog w base spare held n 9 (List.take (Tryz.prog.cellsOf 9) [c0, c1, c2]) = some y0 := hf 0 _ rfl
      have h1 : DataW.trod enc Tryz.prog w base spare held n 36 (List.take (Tryz.prog.cellsOf 36) [c1, c2]) = some y1 := hf 1 _ rfl
      have h2 : DataW.trod enc Tryz.prog w base spare held n 3 (List.take (Tryz.prog.cellsOf 3) [c2]) = some y2 := hf 2 _ rfl
      have z1 : Sz Tryz.prog 36 y1.1 := sz_agg hs Tryz.underlying58 (j := 1) rfl rfl
      rw [k0] at h0
      rw [k1] at h1
      rw [k2] at h2
      obtain ⟨s, e0, _, _⟩ := DataW.trod_string Tryz.underlying9 h0
      obtain ⟨g, e1, hr, hn⟩ := open_u8l h1 z1
      obtain ⟨x, e2, w2⟩ := open_num h2
      simp at e0 e1 e2
      subst e0 e1 e2
      exact ⟨(⟨s, g.1, x⟩, g.2.1, g.2.2), rfl, hr, hn, w2⟩
theorem open_files {fuel : Nat} {v : Value} {y : DataW H × List MemPlace} (h : DataW.trod enc Tryz.prog w base spare held fuel 22 [v] = some y) (hs : Sz Tryz.prog 22 y.1) :
    ∃ A c l, v = .slice A (l : List HV).length c ∧ FlRd w A l.length (l.map (·.1)) ∧ l.length * 48 ≤ 140737488351232 ∧ ∀ g ∈ l, g.1.data.length ≤ 140737488351232 ∧ IsI64 g.1.safe := by
  obtain ⟨A, c, gs, e, hr, hb, hp, _⟩ := open_row (k := 3) (bts := 48) Tryz.underlying22 (by kernel_rfl) (by kernel_rfl) (by decide) (fun g : HV => (flcells g.1 g.2.1 g.2.2).toList) (fun _ => rfl) (fun g => Rd w g.2.1 g.1.data.length (u8s g.1.data) ∧ g.1.data.length ≤ 140737488351232 ∧ IsI64 g.1.safe) (fun fuel cs y h hz => open_file h hz) h hs
  exact ⟨A, c, gs, e, ⟨gs, rfl, hr, fun g hg => (hp g hg).1⟩, hb, fun g hg => (hp g hg).2⟩
set_option maxRecDepth 100000 in
theorem open_op {fuel : Nat} {cs : List Value} {y : DataW H × List MemPlace} (h : DataW.trod enc Tryz.prog w base spare held fuel 44 cs = some y) (hs : Sz Tryz.prog 44 y.1) :
    ∃ g : HO, cs = (opcells g).toList ∧ OpOk w g := by
  obtain ⟨ys, n, _, rfl, hlen, hyl, hf⟩ := DataW.trod_struct Tryz.underlying44 h
  have hC : Tryz.prog.cellsOf 44 = 7 := by kernel_rfl
  have k0 : Tryz.prog.cellsOf 9 = 1 := by kernel_rfl
  have k1 : Tryz.prog.cellsOf 36 = 1 := by kernel_rfl
  have k2 : Tryz.prog.cellsOf 3 = 1 := by kernel_rfl
  have k3 : Tryz.prog.cellsOf 42 = 1 := by kernel_rfl
  rw [hC] at hlen
  match cs, hlen with
  | [c0, c1, c2, c3, c4, c5, c6], _ =>
    match ys, hyl with
    | [y0, y1, y2, y3, y4, y5, y6], _ =>
      have h0 : DataW.trod enc Tryz.prog w base spare held n 3 (List.take (Tryz.prog.cellsOf 3) [c0, c1, c2, c3, c4, c5, c6]) = some y0 := hf 0 _ rfl
      have h1 : DataW.trod enc Tryz.prog w base spare held n 9 (List.take (Tryz.prog.cellsOf 9) [c1, c2, c3, c4, c5, c6]) = some y1 := hf 1 _ rfl
      have h2 : DataW.trod enc Tryz.prog w base spare held n 9 (List.take (Tryz.prog.cellsOf 9) [c2, c3, c4, c5, c6]) = some y2 := hf 2 _ rfl
      have h3 : DataW.trod enc Tryz.prog w base spare held n 36 (List.take (Tryz.prog.cellsOf 36) [c3, c4, c5, c6]) = some y3 := hf 3 _ rfl
      have h4 : DataW.trod enc Tryz.prog w base spare held n 3 (List.take (Tryz.prog.cellsOf 3) [c4, c5, c6]) = some y4 := hf 4 _ rfl
      have h5 : DataW.trod enc Tryz.prog w base spare held n 3 (List.take (Tryz.prog.cellsOf 3) [c5, c6]) = some y5 := hf 5 _ rfl
      have h6 : DataW.trod enc Tryz.prog w base spare held n 42 (List.take (Tryz.prog.cellsOf 42) [c6]) = some y6 := hf 6 _ rfl
      have z3 : Sz Tryz.prog 36 y3.1 := sz_agg hs Tryz.underlying44 (j := 3) rfl rfl
      have z6 : Sz Tryz.prog 42 y6.1 := sz_agg hs Tryz.underlying44 (j := 6) rfl rfl
      rw [k2] at h0 h4 h5
      rw [k0] at h1 h2
      rw [k1] at h3
      rw [k3] at h6
      obtain ⟨x0, e0, w0⟩ := open_num h0
      obtain ⟨x1, e1, _, _⟩ := DataW.trod_string Tryz.underlying9 h1
      obtain ⟨x2, e2, _, _⟩ := DataW.trod_string Tryz.underlying9 h2
      obtain ⟨x3, e3, r3, n3⟩ := open_u8l h3 z3
      obtain ⟨x4, e4, w4⟩ := open_num h4
      obtain ⟨x5, e5, w5⟩ := open_num h5
      obtain ⟨x6, e6, r6, n6⟩ := open_intl h6 z6
      simp at e0 e1 e2 e3 e4 e5 e6
      subst e0 e1 e2 e3 e4 e5 e6
      exact ⟨(⟨x0, x1, x2, x3.1, x4, x5, x6.1⟩, x3.2, x6.2), rfl, ⟨r3, n3⟩, ⟨r6, n6⟩, w0, w4, w5⟩
theorem open_ops {fuel : Nat} {v : Value} {y : DataW H × List MemPlace} (h : DataW.trod enc Tryz.prog w base spare held fuel 45 [v] = some y) (hs : Sz Tryz.prog 45 y.1) :
    ∃ A c l, v = .slice A (l : List HO).length c ∧ OpsRd w A l ∧ l.length * 104 ≤ 140737488351232 := by
  obtain ⟨A, c, gs, e, hr, hb, hp, _⟩ := open_row (k := 7) (bts := 104) Tryz.underlying45 (by kernel_rfl) (by kernel_rfl) (by decide) (fun g : HO => (opcells g).toList) (fun _ => rfl) (fun g => OpOk w g) (fun fuel cs y h hz => open_op h hz) h hs
  exact ⟨A, c, gs, e, ⟨hr, hp⟩, hb⟩
end
end Go.Proofs.YtjajbbgebblalaaGreatDoor
