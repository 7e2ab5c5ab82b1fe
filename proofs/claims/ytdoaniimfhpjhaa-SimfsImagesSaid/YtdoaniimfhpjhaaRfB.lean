/-
  The reference's disk: Put, take.
-/
import Derived.Test.YtdoaniimfhpjhaaRfA
import Derived.Deep.QuietTactic
import Derived.BigQuiet
namespace Go.Proofs.Ytdoaniimfhpjhaa
open Go.RowKit
set_option linter.unusedVariables false
set_option linter.unusedSimpArgs false
theorem hv_at {w : World} {A : Option Addr} {n k : Nat} {hs : List HV} (h : RdN w 3 A n (flCells hs)) (hk : k < n) :
    ∃ b o f Af cf, hs[k]? = some (f, Af, cf) ∧ A = some ⟨b, o, none⟩ ∧ w.rangeAt b (o + k * 3) (flcells f Af cf).toList := by
  have hl := h.1
  rw [flCells_len] at hl
  obtain ⟨b, o, e, hc⟩ := h.2 (by omega)
  have hg : hs[k]? = some hs[k] := List.getElem?_eq_getElem (by omega)
  refine ⟨b, o, hs[k].1, hs[k].2.1, hs[k].2.2, hg, e, fun j v hv => ?_⟩
  have hj : j < 3 := by
    have := (List.getElem?_eq_some_iff.1 hv).1
    simpa [flcells] using this
  rw [Nat.add_assoc]
  exact hc _ _ (by rw [flCells_at hs k j _ hg hj]; exact hv)
def takeH (hs : List HV) (nm : ByteArray) : List HV := hs.filter fun h => decide (h.1.name ≠ nm)
def GaveH (w : World) (l : List HV) (e : Ending) (w' : World) : Prop :=
  ∃ A c, e = .returned (.slice A l.length c) ∧ Ext w w' ∧ w'.ownsRow w.heap.size 49 3 (.slice A l.length c) l.length (flCells l)
def TkR (w : World) (hs : List HV) (nm : ByteArray) (c5 c10 : Value) (wr : World) : Prop :=
  ∃ (k : Nat) (A : Option Addr) (m c : Nat), c10 = .int .i64 k ∧ k ≤ hs.length ∧ c5 = .slice A m c ∧ m = (takeH (hs.take k) nm).length ∧ Ext w wr ∧ wr.ownsRow w.heap.size 49 3 (.slice A m c) m (flCells (takeH (hs.take k) nm))
set_option maxRecDepth 100000 in
set_option maxHeartbeats 4000000 in
theorem rtake_any (A : Option Addr) (n c : Nat) (hs : List HV) (nm : ByteArray) (w : World) (hr : RdN w 3 A n (flCells hs)) (hn : n ≤ 2000000) :
    Calls Try.prog 46 #[.slice A n c, .string nm] w (GaveH w (takeH hs nm)) := by
  have hl : hs.length = n := by have := hr.1; rw [flCells_len] at this; omega
  have Hl := Lib.hid hl
  clear hl
  go_enter Try.func46, Try.ntmps46
  go_wp2_with fail
  go_loopw [5, 10] (fun c5 c10 wr => TkR w hs nm c5 c10 wr) (fun _ c10 _ => n - (intOf c10).toNat)
  case atStart => exact ⟨0, _, 0, _, rfl, by omega, rfl, rfl, (by repeat (first | with_reducible exact Below.refl _ _ | with_reducible assumption | with_reducible refine ExtD ?_ | with_reducible refine ExtDN ?_ | with_reducible refine ExtA ?_ | (with_reducible refine ExtR ?_ ?_; (first | omega | (dsimp only; omega) | (simp; done) | (simp; omega))) | (with_reducible refine ExtS ?_ ?_; (first | omega | (dsimp only; omega) | (simp; done) | (simp; omega))) | with_reducible refine Ext.tr ?_ (by with_reducible assumption))), own_new w w.heap.size #[] _ 0 (Nat.le_refl _) (by decide) rfl⟩
  case round =>
    obtain ⟨k, A1, m, c1, rfl, hk, rfl, hm, hx, hown⟩ := hrel
    rw [Hl.out] at hk
    have Hm := Lib.hid hm
    have Hown := Lib.hid hown
    clear hm hown
    by_cases hlt : k < n
    · obtain ⟨b, o, f, Af, cf, hfk, rfl, hc⟩ := hv_at (hr.ext hx) hlt
      have e0 := hc 0 _ rfl
      have e1 := hc 1 _ rfl
      have e2 := hc 2 _ rfl
      simp only [Nat.add_zero] at e0
      have hsn : takeH (hs.take (k + 1)) nm = takeH (hs.take k) nm ++ takeH [(f, Af, cf)] nm := by unfold takeH; rw [List.take_add_one, hfk, List.filter_append]; rfl
      have hml : m ≤ n := by rw [Hm.out]; unfold takeH; have := List.length_filter_le (fun h : HV => decide (h.1.name ≠ nm)) (hs.take k); rw [List.length_take] at this; omega
      have Hsn := Lib.hid hsn
      clear hfk hc hr hsn
      by_cases he : f.name = nm
      · have d1 : (f.name.toList == nm.toList) = true := by rw [he]; simp
        have h1 : takeH [(f, Af, cf)] nm = [] := by unfold takeH; simp [he]
        rw [h1, List.append_nil] at Hsn
        clear he
        go_wp2_with fail
        go_roundw
        case rel => exact ⟨k + 1, A1, m, c1, by go_num, by rw [Hl.out]; omega, rfl, by rw [Hsn.out]; exact Hm.out, hx, by rw [Hsn.out]; exact Hown.out⟩
        case measure => simp [intOf]; omega
      · have d1 : (f.name.toList == nm.toList) = false := ba_ne he
        have h1 : takeH [(f, Af, cf)] nm = [(f, Af, cf)] := by unfold takeH; simp [he]
        rw [h1] at Hsn
        obtain ⟨fn, fd, sf⟩ := f
        dsimp only at e0 e1 e2 d1
        obtain ⟨n0, hn0⟩ : ∃ n0, n0 = fd.length := ⟨_, rfl⟩
        have Hrd := Lib.hid (show RdN (wr.alloc (.cells #[.string fn, .slice Af n0 cf, .int .i64 sf] 49)) 3 (some ⟨wr.heap.size, 0, none⟩) 1 (flCells [(⟨fn, fd, sf⟩, Af, cf)]) from by rw [hn0]; exact rdV_new wr _ ⟨fn, fd, sf⟩ Af cf rfl)
        rw [← hn0] at e1
        clear he hn0
        go_wp2_with (change wpList _ _ _ (⟨some 26, _, _, _, _, _⟩ :: _) _ _; refine wpV_append rfl (.tmp 20) (.tmp 25) rfl w rfl (own_ext (ExtA (Ext.rfl' wr)) Hown.out) (ExtA hx) rfl Hrd.out (by rw [← Hm.out]; simp; omega) ?_; intro A3 n3 c3 w3 hx3 hn3 hown3 hk3 hg3)
        go_roundw
        case rel => exact ⟨k + 1, A3, n3, c3, by go_num, by rw [Hl.out]; omega, rfl, by rw [Hsn.out, hn3.out, List.length_append], hx3, by rw [Hsn.out]; exact hown3⟩
        case measure => simp [intOf]; omega
    · obtain rfl : k = n := by omega
      have ht : hs.take k = hs := List.take_of_length_le (by rw [Hl.out]; exact Nat.le_refl _)
      have Ht := Lib.hid ht
      clear ht
      go_wp2_with fail
      go_ret
      have h1 := Hm.out
      have h2 := Hown.out
      rw [Ht.out] at h1 h2
      subst h1
      exact ⟨A1, c1, rfl, hx, h2⟩
/-- b > a, as Go's > of strings is walked. -/
def ltN (a b : ByteArray) : Bool := !Op.bytesLess b.toList a.toList && !b.toList == a.toList
theorem own_emptyF (w : World) (base g : Nat) (hg : w.heap.size = g) (hb : base ≤ g) : (w.alloc (.cells #[] 49)).ownsRow base 49 3 (.slice (some ⟨g, 0, none⟩) 0 0) 0 (flCells []) := by
  subst hg
  exact own_new w base #[] _ 0 hb (by decide) rfl
def gtH (x f : HV) : Bool := ltN f.1.name x.1.name
def putH (f : HV) : List HV → List HV
  | [] => [f]
  | x :: r => if gtH x f then f :: x :: r else x :: putH f r
theorem put_all {f : HV} : ∀ {l : List HV}, (∀ x ∈ l, gtH x f = false) → putH f l = l ++ [f] := by
  intro l
  induction l with
  | nil => intro _; rfl
  | cons x r ih =>
    intro h
    unfold putH
    rw [if_neg (by rw [h x (by simp)]; exact Bool.false_ne_true), ih (fun y hy => h y (List.mem_cons_of_mem _ hy))]
    rfl
theorem put_here {f x : HV} : ∀ {l : List HV}, (∀ x ∈ l, gtH x f = false) → gtH x f = true → putH f (l ++ [x]) = l ++ [f, x] := by
  intro l
  induction l with
  | nil => intro _ hx; simp [putH, hx]
  | cons y r ih =>
    intro h hx
    rw [List.cons_append]
    unfold putH
    rw [if_neg (by rw [h y (by simp)]; exact Bool.false_ne_true), ih (fun z hz => h z (List.mem_cons_of_mem _ hz)) hx]
    rfl
theorem put_snoc {f x : HV} : ∀ {l : List HV}, (∃ y ∈ l, gtH y f = true) → putH f (l ++ [x]) = putH f l ++ [x] := by
  intro l
  induction l with
  | nil => intro ⟨y, hy, _⟩; cases hy
  | cons y r ih =>
    intro ⟨z, hz, hg⟩
    rw [List.cons_append]
    unfold putH
    by_cases hy : gtH y f = true
    · rw [if_pos hy, if_pos hy]; rfl
    · rw [if_neg hy, if_neg hy, List.cons_append]
      congr 1
      refine ih ?_
      rcases List.mem_cons.1 hz with h1 | h1
      · subst h1; exact absurd hg hy
      · exact ⟨z, h1, hg⟩
theorem put_len (f : HV) (l : List HV) : (putH f l).length = l.length + 1 := by
  induction l with
  | nil => rfl
  | cons x r ih =>
    unfold putH
    split
    · simp
    · rw [List.length_cons, ih, List.length_cons]
def PutR (w : World) (hs : List HV) (f : HV) (c5 c6 c11 : Value) (wr : World) : Prop :=
  ∃ (k : Nat) (A : Option Addr) (m c : Nat) (dn : Bool), c11 = .int .i64 k ∧ k ≤ hs.length ∧ c5 = .slice A m c ∧ c6 = .bool dn ∧ Ext w wr ∧
    (if dn = true then m = k + 1 ∧ (∃ y ∈ hs.take k, gtH y f = true) ∧ wr.ownsRow w.heap.size 49 3 (.slice A m c) m (flCells (putH f (hs.take k)))
     else m = k ∧ (∀ y ∈ hs.take k, gtH y f = false) ∧ wr.ownsRow w.heap.size 49 3 (.slice A m c) m (flCells (hs.take k)))
set_option maxRecDepth 100000 in
set_option maxHeartbeats 4000000 in
theorem rput_any (A : Option Addr) (n c : Nat) (hs : List HV) (f : FV) (Av : Option Addr) (cv : Nat) (w : World) (hr : RdN w 3 A n (flCells hs)) (hn : n ≤ 2000000) :
    Calls Try.prog 40 #[.slice A n c, .agg #[.string f.name, .slice Av f.data.length cv, .int .i64 f.safe]] w (GaveH w (putH (f, Av, cv) hs)) := by
  have hl : hs.length = n := by have := hr.1; rw [flCells_len] at this; omega
  have Hl := Lib.hid hl
  clear hl
  go_enter Try.func40, Try.ntmps40
  go_wp2_with fail
  go_loopw [5, 6, 11] (fun c5 c6 c11 wr => PutR (w.alloc (.cells #[.string f.name, .slice Av f.data.length cv, .int .i64 f.safe] 49)) hs (f, Av, cv) c5 c6 c11 wr) (fun _ _ c11 _ => n - (intOf c11).toNat)
  case atStart => exact ⟨0, _, 0, _, false, rfl, by omega, rfl, rfl, (by repeat (first | with_reducible exact Below.refl _ _ | with_reducible assumption | with_reducible refine ExtD ?_ | with_reducible refine ExtDN ?_ | with_reducible refine ExtA ?_ | (with_reducible refine ExtR ?_ ?_; (first | omega | (dsimp only; omega) | (simp; done) | (simp; omega))) | (with_reducible refine ExtS ?_ ?_; (first | omega | (dsimp only; omega) | (simp; done) | (simp; omega))) | with_reducible refine Ext.tr ?_ (by with_reducible assumption))), by
    rw [if_neg Bool.false_ne_true]
    exact ⟨rfl, fun y hy => by simp at hy, own_emptyF (w.alloc (.cells #[.string f.name, .slice Av f.data.length cv, .int .i64 f.safe] 49)) _ _ (by simp) (by simp)⟩⟩
  case round =>
    obtain ⟨k, A1, m, c1, dn, rfl, hk, rfl, rfl, hx, hD⟩ := hrel
    rw [Hl.out] at hk
    have HD := Lib.hid hD
    clear hD
    have hxw : Ext w wr := (ExtA (Ext.rfl' w)).tr hx
    have b0 : wr.cell? ⟨w.heap.size, 0, none⟩ = some (.string f.name) := hx.cell (by simp)
    have b1 : wr.cell? ⟨w.heap.size, 1, none⟩ = some (.slice Av f.data.length cv) := hx.cell (by simp)
    have b2 : wr.cell? ⟨w.heap.size, 2, none⟩ = some (.int .i64 f.safe) := hx.cell (by simp)
    by_cases hlt : k < n
    · obtain ⟨b, o, x, Ax, cx, hfk, rfl, hc0⟩ := hv_at hr hlt
      have hc := range_ext hc0 hxw
      have HC := Lib.hid fun (w2 : World) (h2 : Ext (w.alloc (.cells #[.string f.name, .slice Av f.data.length cv, .int .i64 f.safe] 49)) w2) => range_ext hc0 ((ExtA (Ext.rfl' w)).tr h2)
      clear hc0
      have e0 := hc 0 _ rfl
      have e1 := hc 1 _ rfl
      have e2 := hc 2 _ rfl
      simp only [Nat.add_zero] at e0
      have hf2 : hs.take (k + 1) = hs.take k ++ [(x, Ax, cx)] := by rw [List.take_add_one, hfk]; rfl
      have Hf2 := Lib.hid hf2
      clear hfk hc hr hf2
      have Hrx := Lib.hid fun (W' : World) => (show RdN (W'.alloc (.cells #[.string x.name, .slice Ax x.data.length cx, .int .i64 x.safe] 49)) 3 (some ⟨W'.heap.size, 0, none⟩) 1 (flCells [(x, Ax, cx)]) from rdV_new W' _ x Ax cx rfl)
      have Hrf := Lib.hid fun (W' : World) => (show RdN (W'.alloc (.cells #[.string f.name, .slice Av f.data.length cv, .int .i64 f.safe] 49)) 3 (some ⟨W'.heap.size, 0, none⟩) 1 (flCells [(f, Av, cv)]) from rdV_new W' _ f Av cv rfl)
      cases dn
      · simp only [Bool.false_eq_true, if_false] at HD
        obtain rfl : m = k := HD.out.1
        go_wp2_with fail
        go_quiet (fail)
        generalize hq : (!Op.bytesLess x.name.toList f.name.toList && !x.name.toList == f.name.toList) = q
        have hq : gtH (x, Ax, cx) (f, Av, cv) = q := hq
        have Hq := Lib.hid hq
        clear hq
        cases q
        · go_wp2_with (change wpList _ _ _ (⟨some 36, _, _, _, _, _⟩ :: _) _ _; refine wpV_append rfl (.tmp 30) (.tmp 35) rfl (w.alloc (.cells #[.string f.name, .slice Av f.data.length cv, .int .i64 f.safe] 49)) rfl (own_ext (w := wr) (by repeat (first | with_reducible exact Below.refl _ _ | with_reducible assumption | with_reducible refine ExtD ?_ | with_reducible refine ExtDN ?_ | with_reducible refine ExtA ?_ | (with_reducible refine ExtR ?_ ?_; (first | omega | (dsimp only; omega) | (simp; done) | (simp; omega))) | (with_reducible refine ExtS ?_ ?_; (first | omega | (dsimp only; omega) | (simp; done) | (simp; omega))) | with_reducible refine Ext.tr ?_ (by with_reducible assumption))) HD.out.2.2) (by repeat (first | with_reducible exact Below.refl _ _ | with_reducible assumption | with_reducible refine ExtD ?_ | with_reducible refine ExtDN ?_ | with_reducible refine ExtA ?_ | (with_reducible refine ExtR ?_ ?_; (first | omega | (dsimp only; omega) | (simp; done) | (simp; omega))) | (with_reducible refine ExtS ?_ ?_; (first | omega | (dsimp only; omega) | (simp; done) | (simp; omega))) | with_reducible refine Ext.tr ?_ (by with_reducible assumption))) rfl (Hrx.out _) (by have := Hl.out; simp [put_len]; omega) ?_; intro A3 n3 c3 w3 hx3 hn3 hown3 hk3 hg3)
          go_roundw
          case rel =>
            have hn : n3 = m + 1 := by have := hn3.out; have := Hl.out; simp at *; omega
            subst hn
            refine ⟨m + 1, A3, _, c3, false, by go_num, by rw [Hl.out]; omega, rfl, rfl, hx3, ?_⟩
            rw [if_neg Bool.false_ne_true, Hf2.out]
            refine ⟨rfl, fun y hy => ?_, hown3⟩
            rcases List.mem_append.1 hy with h1 | h1
            · exact HD.out.2.1 y h1
            · simp only [List.mem_singleton] at h1; subst h1; exact Hq.out
          case measure => simp [intOf]; omega
        · go_wp2_with (first | (change wpList _ _ _ (⟨some 29, _, _, _, _, _⟩ :: _) _ _; refine wpV_append rfl (.tmp 26) (.tmp 28) rfl (w.alloc (.cells #[.string f.name, .slice Av f.data.length cv, .int .i64 f.safe] 49)) rfl (own_ext (w := wr) (by repeat (first | with_reducible exact Below.refl _ _ | with_reducible assumption | with_reducible refine ExtD ?_ | with_reducible refine ExtDN ?_ | with_reducible refine ExtA ?_ | (with_reducible refine ExtR ?_ ?_; (first | omega | (dsimp only; omega) | (simp; done) | (simp; omega))) | (with_reducible refine ExtS ?_ ?_; (first | omega | (dsimp only; omega) | (simp; done) | (simp; omega))) | with_reducible refine Ext.tr ?_ (by with_reducible assumption))) HD.out.2.2) (by repeat (first | with_reducible exact Below.refl _ _ | with_reducible assumption | with_reducible refine ExtD ?_ | with_reducible refine ExtDN ?_ | with_reducible refine ExtA ?_ | (with_reducible refine ExtR ?_ ?_; (first | omega | (dsimp only; omega) | (simp; done) | (simp; omega))) | (with_reducible refine ExtS ?_ ?_; (first | omega | (dsimp only; omega) | (simp; done) | (simp; omega))) | with_reducible refine Ext.tr ?_ (by with_reducible assumption))) rfl (Hrf.out _) (by have := Hl.out; simp; omega) ?_; intro A2 n2 c2 w2 hx2 hn2 hown2 hk2 hg2; have e0' : w2.cell? ⟨b, o + m * 3, none⟩ = some (.string x.name) := (by have := HC.out w2 hx2 0 _ rfl; simpa using this); have e1' : w2.cell? ⟨b, o + m * 3 + 1, none⟩ = some (.slice Ax x.data.length cx) := HC.out w2 hx2 1 _ rfl; have e2' : w2.cell? ⟨b, o + m * 3 + 2, none⟩ = some (.int .i64 x.safe) := HC.out w2 hx2 2 _ rfl) | (change wpList _ _ _ (⟨some 36, _, _, _, _, _⟩ :: _) _ _; refine wpV_append rfl (.tmp 30) (.tmp 35) rfl (w.alloc (.cells #[.string f.name, .slice Av f.data.length cv, .int .i64 f.safe] 49)) rfl (own_ext (w := w2) (by repeat (first | with_reducible exact Below.refl _ _ | with_reducible assumption | with_reducible refine ExtD ?_ | with_reducible refine ExtDN ?_ | with_reducible refine ExtA ?_ | (with_reducible refine ExtR ?_ ?_; (first | omega | (dsimp only; omega) | (simp; done) | (simp; omega))) | (with_reducible refine ExtS ?_ ?_; (first | omega | (dsimp only; omega) | (simp; done) | (simp; omega))) | with_reducible refine Ext.tr ?_ (by with_reducible assumption))) hown2) (by repeat (first | with_reducible exact Below.refl _ _ | with_reducible assumption | with_reducible refine ExtD ?_ | with_reducible refine ExtDN ?_ | with_reducible refine ExtA ?_ | (with_reducible refine ExtR ?_ ?_; (first | omega | (dsimp only; omega) | (simp; done) | (simp; omega))) | (with_reducible refine ExtS ?_ ?_; (first | omega | (dsimp only; omega) | (simp; done) | (simp; omega))) | with_reducible refine Ext.tr ?_ (by with_reducible assumption))) rfl (Hrx.out _) (by have := Hl.out; simp [put_len]; omega) ?_; intro A3 n3 c3 w3 hx3 hn3 hown3 hk3 hg3))
          go_roundw
          case rel =>
            have hn : n3 = m + 1 + 1 := by have := hn3.out; have := Hl.out; simp at *; omega
            subst hn
            refine ⟨m + 1, A3, _, c3, true, by go_num, by rw [Hl.out]; omega, rfl, rfl, hx3, ?_⟩
            rw [if_pos rfl, Hf2.out]
            refine ⟨rfl, ⟨_, List.mem_append_right _ (List.mem_singleton.2 rfl), Hq.out⟩, ?_⟩
            rw [put_here HD.out.2.1 Hq.out]
            rw [List.append_assoc] at hown3
            exact hown3
          case measure => simp [intOf]; omega
      · simp only [if_true] at HD
        obtain rfl : m = k + 1 := HD.out.1
        go_wp2_with fail
        go_quiet (fail)
        go_wp2_with (change wpList _ _ _ (⟨some 36, _, _, _, _, _⟩ :: _) _ _; refine wpV_append rfl (.tmp 30) (.tmp 35) rfl (w.alloc (.cells #[.string f.name, .slice Av f.data.length cv, .int .i64 f.safe] 49)) rfl (own_ext (w := wr) (by repeat (first | with_reducible exact Below.refl _ _ | with_reducible assumption | with_reducible refine ExtD ?_ | with_reducible refine ExtDN ?_ | with_reducible refine ExtA ?_ | (with_reducible refine ExtR ?_ ?_; (first | omega | (dsimp only; omega) | (simp; done) | (simp; omega))) | (with_reducible refine ExtS ?_ ?_; (first | omega | (dsimp only; omega) | (simp; done) | (simp; omega))) | with_reducible refine Ext.tr ?_ (by with_reducible assumption))) HD.out.2.2) (by repeat (first | with_reducible exact Below.refl _ _ | with_reducible assumption | with_reducible refine ExtD ?_ | with_reducible refine ExtDN ?_ | with_reducible refine ExtA ?_ | (with_reducible refine ExtR ?_ ?_; (first | omega | (dsimp only; omega) | (simp; done) | (simp; omega))) | (with_reducible refine ExtS ?_ ?_; (first | omega | (dsimp only; omega) | (simp; done) | (simp; omega))) | with_reducible refine Ext.tr ?_ (by with_reducible assumption))) rfl (Hrx.out _) (by have := Hl.out; simp [put_len]; omega) ?_; intro A3 n3 c3 w3 hx3 hn3 hown3 hk3 hg3)
        go_roundw
        case rel =>
          have hn : n3 = k + 1 + 1 := by have := hn3.out; have := Hl.out; simp [put_len] at *; omega
          subst hn
          refine ⟨k + 1, A3, _, c3, true, by go_num, by rw [Hl.out]; omega, rfl, rfl, hx3, ?_⟩
          rw [if_pos rfl, Hf2.out]
          refine ⟨rfl, ?_, ?_⟩
          · obtain ⟨y, hy, hg⟩ := HD.out.2.1
            exact ⟨y, List.mem_append_left _ hy, hg⟩
          · rw [put_snoc HD.out.2.1]
            exact hown3
        case measure => simp [intOf]; omega
    · obtain rfl : k = n := by omega
      have Ht := Lib.hid (show hs.take k = hs from List.take_of_length_le (by rw [Hl.out]; exact Nat.le_refl _))
      have Hrf := Lib.hid fun (W' : World) => (show RdN (W'.alloc (.cells #[.string f.name, .slice Av f.data.length cv, .int .i64 f.safe] 49)) 3 (some ⟨W'.heap.size, 0, none⟩) 1 (flCells [(f, Av, cv)]) from rdV_new W' _ f Av cv rfl)
      cases dn
      · simp only [Bool.false_eq_true, if_false] at HD
        obtain rfl : m = k := HD.out.1
        go_wp2_with (change wpList _ _ _ (⟨some 43, _, _, _, _, _⟩ :: _) _ _; refine wpV_append rfl (.tmp 40) (.tmp 42) rfl (w.alloc (.cells #[.string f.name, .slice Av f.data.length cv, .int .i64 f.safe] 49)) rfl (own_ext (w := wr) (by repeat (first | with_reducible exact Below.refl _ _ | with_reducible assumption | with_reducible refine ExtD ?_ | with_reducible refine ExtDN ?_ | with_reducible refine ExtA ?_ | (with_reducible refine ExtR ?_ ?_; (first | omega | (dsimp only; omega) | (simp; done) | (simp; omega))) | (with_reducible refine ExtS ?_ ?_; (first | omega | (dsimp only; omega) | (simp; done) | (simp; omega))) | with_reducible refine Ext.tr ?_ (by with_reducible assumption))) HD.out.2.2) (by repeat (first | with_reducible exact Below.refl _ _ | with_reducible assumption | with_reducible refine ExtD ?_ | with_reducible refine ExtDN ?_ | with_reducible refine ExtA ?_ | (with_reducible refine ExtR ?_ ?_; (first | omega | (dsimp only; omega) | (simp; done) | (simp; omega))) | (with_reducible refine ExtS ?_ ?_; (first | omega | (dsimp only; omega) | (simp; done) | (simp; omega))) | with_reducible refine Ext.tr ?_ (by with_reducible assumption))) rfl (Hrf.out _) (by have := Hl.out; simp; omega) ?_; intro A3 n3 c3 w3 hx3 hn3 hown3 hk3 hg3)
        go_ret
        have hn : n3 = (putH (f, Av, cv) hs).length := by have := hn3.out; have := Hl.out; rw [put_len]; simp at *; omega
        have ho := hown3
        have hp := HD.out.2.1
        rw [Ht.out] at ho hp
        rw [← put_all hp] at ho
        subst hn
        exact ⟨A3, c3, rfl, (ExtA (Ext.rfl' w)).tr hx3, own_base ho (by simp)⟩
      · simp only [if_true] at HD
        obtain rfl : m = k + 1 := HD.out.1
        go_wp2_with fail
        go_ret
        have hn : k + 1 = (putH (f, Av, cv) hs).length := by rw [put_len, Hl.out]
        have ho := HD.out.2.2
        rw [Ht.out, hn] at ho
        rw [hn]
        exact ⟨A1, c1, rfl, hxw, own_base ho (by simp)⟩
end Go.Proofs.Ytdoaniimfhpjhaa
