/-
  The reference's disk: New, At, Used.
-/
/-
  The reference's disk: Put, take.
-/
/-
  The reference's disk: barred. (Under way.)
-/
import Derived.Test.YtjajbbgebblalaaGreatDoorShrT
import Derived.Test.YtjajbbgebblalaaGreatDoorLsD
import Derived.Deep.QuietTactic
import Derived.BigQuiet
namespace Go.Proofs.YtjajbbgebblalaaGreatDoor
open Go.RowKit
set_option linter.unusedVariables false
set_option linter.unusedSimpArgs false
theorem ba_ne {a b : ByteArray} (h : a ≠ b) : (a.toList == b.toList) = false := by
  rw [beq_eq_false_iff_ne]
  exact fun hc => h (toList_inj hc)
def atI (fs : List FV) (nm : ByteArray) : Int := match fs.findIdx? (fun f => decide (f.name = nm)) with | some i => (i : Nat) | none => -1
theorem at_none {fs : List FV} {nm : ByteArray} (h : ∀ f ∈ fs, f.name ≠ nm) : atI fs nm = -1 := by
  unfold atI
  rw [List.findIdx?_eq_none_iff.2 (fun f hf => by simpa using h f hf)]
theorem at_some {fs : List FV} {nm : ByteArray} {k : Nat} {f : FV} (hk : fs[k]? = some f) (hn : f.name = nm) (h : ∀ j g, j < k → fs[j]? = some g → g.name ≠ nm) : atI fs nm = (k : Nat) := by
  unfold atI
  obtain ⟨hl, hv⟩ := List.getElem?_eq_some_iff.1 hk
  rw [List.findIdx?_eq_some_iff_getElem.2 ⟨hl, by rw [hv]; simpa using hn, fun j hj => by simpa using h j _ hj (List.getElem?_eq_getElem (by omega))⟩]
theorem disk_wide : Wide Tryz.prog 28 6 := ⟨⟨_, Tryz.underlying28, rfl⟩, by kernel_rfl⟩
set_option maxRecDepth 100000 in
set_option maxHeartbeats 4000000 in
theorem rnew_any (room : Int) (w : World) : Calls Tryz.prog 48 #[.int .i64 room] w fun e w' => e = .returned (.agg #[.slice none 0 0, .int .i64 (min (max 0 room) 67108864), .int .i64 0, .bool false, .int .i64 0, .int .i64 0]) ∧ Ext w w' := by
  by_cases h0 : room < 0
  · have d0 : decide (room < 0) = true := by simpa using h0
    have e : min (max 0 room) 67108864 = 0 := by omega
    rw [e]
    go_enter Tryz.func48, Tryz.ntmps48
    go_wp2_with fail
    refine bodyPost_ret (res_row rfl _ _ w.heap.size 28 _ 6 rfl (BlkN rfl) disk_wide rfl) rfl ?_
    exact ⟨rfl, exA⟩
  · have d0 : decide (room < 0) = false := by simpa using h0
    by_cases h1 : 67108864 < room
    · have d1 : decide (67108864 < room) = true := by simpa using h1
      have e : min (max 0 room) 67108864 = 67108864 := by omega
      rw [e]
      go_enter Tryz.func48, Tryz.ntmps48
      go_wp2_with fail
      refine bodyPost_ret (res_row rfl _ _ w.heap.size 28 _ 6 rfl (BlkN rfl) disk_wide rfl) rfl ?_
      exact ⟨rfl, exA⟩
    · have d1 : decide (67108864 < room) = false := by simpa using h1
      have e : min (max 0 room) 67108864 = room := by omega
      rw [e]
      go_enter Tryz.func48, Tryz.ntmps48
      go_wp2_with fail
      refine bodyPost_ret (res_row rfl _ _ w.heap.size 28 _ 6 rfl (BlkN rfl) disk_wide rfl) rfl ?_
      exact ⟨rfl, exA⟩
def AtR (W : World) (fs : List FV) (nm : ByteArray) (c9 : Value) (wr : World) : Prop := ∃ k : Nat, c9 = .int .i64 k ∧ k ≤ fs.length ∧ Ext W wr ∧ ∀ j g, j < k → fs[j]? = some g → g.name ≠ nm
set_option maxRecDepth 100000 in
set_option maxHeartbeats 4000000 in
theorem rat_any (A : Option Addr) (n c : Nat) (fs : List FV) (r1 r2 r4 r5 : Int) (r3 : Bool) (nm : ByteArray) (w : World) (hr : FlRd w A n fs) (hn : n ≤ maxLen) :
    Calls Tryz.prog 24 #[.agg #[.slice A n c, .int .i64 r1, .int .i64 r2, .bool r3, .int .i64 r4, .int .i64 r5], .string nm] w fun e w' => e = .returned (.int .i64 (atI fs nm)) ∧ Ext w w' := by
  have hl := hr.len
  unfold maxLen at hn
  go_enter Tryz.func24, Tryz.ntmps24
  go_wp2_with fail
  go_loopw [9] (fun c9 wr => AtR (w.alloc (.cells #[.slice A n c, .int .i64 r1, .int .i64 r2, .bool r3, .int .i64 r4, .int .i64 r5] 28)) fs nm c9 wr) (fun c9 _ => n - (intOf c9).toNat)
  case atStart => exact ⟨0, rfl, by omega, exA, fun j g hj => by omega⟩
  case round =>
    obtain ⟨k, rfl, hk, hx, hno⟩ := hrel
    have Hno := Lib.hid hno
    have hxw : Ext w wr := (ExtA (Ext.rfl' w)).tr hx
    have b0 : wr.cell? ⟨w.heap.size, 0, none⟩ = some (.slice A n c) := hx.cell (by simp)
    rw [hl] at hk
    have Hl := Lib.hid hl
    clear hno hl
    by_cases hlt : k < n
    · obtain ⟨b, o, f, Af, cf, hfk, rfl, hc, -⟩ := fl_at (hr.ext hxw) hlt
      have e0 := hc 0 _ rfl
      simp only [Nat.add_zero] at e0
      have Hfk := Lib.hid hfk
      clear hfk hc hr
      by_cases he : f.name = nm
      · have d1 : (f.name.toList == nm.toList) = true := by rw [he]; simp
        have ha := at_some Hfk.out he Hno.out
        clear he
        go_wp2_with fail
        go_ret
        rw [ha]; exact ⟨rfl, hxw⟩
      · have d1 : (f.name.toList == nm.toList) = false := ba_ne he
        have Hne := Lib.hid (fun j g (hj : j < k + 1) (hg : fs[j]? = some g) => (show g.name ≠ nm from by
          by_cases hjk : j < k
          · exact Hno.out j g hjk hg
          · obtain rfl : j = k := by omega
            rw [Hfk.out] at hg
            injection hg with hg
            rw [← hg]; exact he))
        clear he
        go_wp2_with fail
        go_roundw
        case rel => exact ⟨k + 1, by go_num, by rw [Hl.out]; omega, hx, Hne.out⟩
        case measure => simp [intOf]; omega
    · obtain rfl : k = n := by omega
      have ha := at_none (fs := fs) (nm := nm) (fun f hf => by
        obtain ⟨j, hj⟩ := List.getElem?_of_mem hf
        exact Hno.out j f (by have := (List.getElem?_eq_some_iff.1 hj).1; rw [Hl.out] at this; exact this) hj)
      go_wp2_with fail
      go_ret
      rw [ha]
      exact ⟨rfl, hxw⟩
def UseR (W : World) (fs : List FV) (c3 c8 : Value) (wr : World) : Prop := ∃ k : Nat, c8 = .int .i64 k ∧ k ≤ fs.length ∧ c3 = .int .i64 (sumV (fs.take k) : Nat) ∧ Ext W wr
set_option maxRecDepth 100000 in
set_option maxHeartbeats 4000000 in
theorem rused_any (A : Option Addr) (n c : Nat) (fs : List FV) (r1 r2 r4 r5 : Int) (r3 : Bool) (w : World) (hr : FlRd w A n fs) (hn : n ≤ maxLen) (hs : sumV fs ≤ 140737488355328) :
    Calls Tryz.prog 108 #[.agg #[.slice A n c, .int .i64 r1, .int .i64 r2, .bool r3, .int .i64 r4, .int .i64 r5]] w fun e w' => e = .returned (.int .i64 (sumV fs : Nat)) ∧ Ext w w' := by
  have hl := hr.len
  unfold maxLen at hn
  go_enter Tryz.func108, Tryz.ntmps108
  go_wp2_with fail
  go_loopw [3, 8] (fun c3 c8 wr => UseR (w.alloc (.cells #[.slice A n c, .int .i64 r1, .int .i64 r2, .bool r3, .int .i64 r4, .int .i64 r5] 28)) fs c3 c8 wr) (fun _ c8 _ => n - (intOf c8).toNat)
  case atStart => exact ⟨0, rfl, by omega, rfl, exA⟩
  case round =>
    obtain ⟨k, rfl, hk, rfl, hx⟩ := hrel
    have hxw : Ext w wr := (ExtA (Ext.rfl' w)).tr hx
    have b0 : wr.cell? ⟨w.heap.size, 0, none⟩ = some (.slice A n c) := hx.cell (by simp)
    rw [hl] at hk
    have Hl := Lib.hid hl
    clear hl
    by_cases hlt : k < n
    · obtain ⟨b, o, f, Af, cf, hfk, rfl, hc, -⟩ := fl_at (hr.ext hxw) hlt
      have e1 := hc 1 _ rfl
      have hs1 : sumV (fs.take k) + f.data.length = sumV (fs.take (k + 1)) := by rw [List.take_add_one, hfk, Option.toList_some, sumV_snoc]
      have hs2 := sumV_take_le fs (k + 1)
      have hs3 : sumV (fs.take k) + f.data.length ≤ 140737488355328 := by omega
      have Hs1 := Lib.hid hs1
      obtain ⟨sj, hsj⟩ : ∃ sj, sj = sumV (fs.take k) := ⟨_, rfl⟩
      rw [← hsj] at hs3 Hs1 ⊢
      clear hs1 hs2 hfk hc hr hsj
      go_wp2_with fail
      go_roundw
      case rel => exact ⟨k + 1, by go_num, by rw [Hl.out]; omega, by rw [← Hs1.out]; go_num, hx⟩
      case measure => simp [intOf]; omega
    · obtain rfl : k = n := by omega
      have ht : fs.take k = fs := List.take_of_length_le (by rw [Hl.out]; exact Nat.le_refl _)
      rw [ht]
      go_wp2_with fail
      go_ret
      exact ⟨rfl, hxw⟩
end Go.Proofs.YtjajbbgebblalaaGreatDoor

namespace Go.Proofs.YtjajbbgebblalaaGreatDoor
open Go.RowKit
set_option linter.unusedVariables false
set_option linter.unusedSimpArgs false
theorem hv_at {w : World} {A : Option Addr} {n k : Nat} {hs : List HV} (h : RdN w 3 A n (flCells hs)) (hk : k < n) :
    ∃ b o f Af cf, hs[k]? = some (f, Af, cf) ∧ A = some ⟨b, o, none⟩ ∧ w.rangeAt b (o + k * 3) (flcells f Af cf).toList := by
  have hl := h.1
  rw [flCells_len] at hl
  obtain ⟨b, o, e, hc⟩ := h.2 (by omega)
  have hg : hs[k]? = some hs[k] := List.getElem?_eq_getElem (by omega)
  refine ⟨b, o, hs[k].1, hs[k].2.1, hs[k].2.2, hg, e, fun j v hv => ?_⟩
  have hj : j < 3 := by
    have := (List.getElem?_eq_some_iff.1 hv).1
    simpa [flcells] using this
  rw [Nat.add_assoc]
  exact hc _ _ (by rw [flCells_at hs k j _ hg hj]; exact hv)
def takeH (hs : List HV) (nm : ByteArray) : List HV := hs.filter fun h => decide (h.1.name ≠ nm)
def GaveH (w : World) (l : List HV) (e : Ending) (w' : World) : Prop :=
  ∃ A c, e = .returned (.slice A l.length c) ∧ Ext w w' ∧ w'.ownsRow w.heap.size 58 3 (.slice A l.length c) l.length (flCells l)
def TkHR (w : World) (hs : List HV) (nm : ByteArray) (c5 c10 : Value) (wr : World) : Prop :=
  ∃ (k : Nat) (A : Option Addr) (m c : Nat), c10 = .int .i64 k ∧ k ≤ hs.length ∧ c5 = .slice A m c ∧ m = (takeH (hs.take k) nm).length ∧ Ext w wr ∧ wr.ownsRow w.heap.size 58 3 (.slice A m c) m (flCells (takeH (hs.take k) nm))
set_option maxRecDepth 100000 in
set_option maxHeartbeats 4000000 in
theorem rtake_any (A : Option Addr) (n c : Nat) (hs : List HV) (nm : ByteArray) (w : World) (hr : RdN w 3 A n (flCells hs)) (hn : n ≤ 2000000) :
    Calls Tryz.prog 109 #[.slice A n c, .string nm] w (GaveH w (takeH hs nm)) := by
  have hl : hs.length = n := by have := hr.1; rw [flCells_len] at this; omega
  have Hl := Lib.hid hl
  clear hl
  go_enter Tryz.func109, Tryz.ntmps109
  go_wp2_with fail
  go_loopw [5, 10] (fun c5 c10 wr => TkHR w hs nm c5 c10 wr) (fun _ c10 _ => n - (intOf c10).toNat)
  case atStart => exact ⟨0, _, 0, _, rfl, by omega, rfl, rfl, exA, own_new w w.heap.size #[] _ 0 (Nat.le_refl _) (by decide) rfl⟩
  case round =>
    obtain ⟨k, A1, m, c1, rfl, hk, rfl, hm, hx, hown⟩ := hrel
    rw [Hl.out] at hk
    have Hm := Lib.hid hm
    have Hown := Lib.hid hown
    clear hm hown
    by_cases hlt : k < n
    · obtain ⟨b, o, f, Af, cf, hfk, rfl, hc⟩ := hv_at (hr.ext hx) hlt
      have e0 := hc 0 _ rfl
      have e1 := hc 1 _ rfl
      have e2 := hc 2 _ rfl
      simp only [Nat.add_zero] at e0
      have hsn : takeH (hs.take (k + 1)) nm = takeH (hs.take k) nm ++ takeH [(f, Af, cf)] nm := by unfold takeH; rw [List.take_add_one, hfk, List.filter_append]; rfl
      have hml : m ≤ n := by rw [Hm.out]; unfold takeH; have := List.length_filter_le (fun h : HV => decide (h.1.name ≠ nm)) (hs.take k); rw [List.length_take] at this; omega
      have Hsn := Lib.hid hsn
      clear hfk hc hr hsn
      by_cases he : f.name = nm
      · have d1 : (f.name.toList == nm.toList) = true := by rw [he]; simp
        have h1 : takeH [(f, Af, cf)] nm = [] := by unfold takeH; simp [he]
        rw [h1, List.append_nil] at Hsn
        clear he
        go_wp2_with fail
        go_roundw
        case rel => exact ⟨k + 1, A1, m, c1, by go_num, by rw [Hl.out]; omega, rfl, by rw [Hsn.out]; exact Hm.out, hx, by rw [Hsn.out]; exact Hown.out⟩
        case measure => simp [intOf]; omega
      · have d1 : (f.name.toList == nm.toList) = false := ba_ne he
        have h1 : takeH [(f, Af, cf)] nm = [(f, Af, cf)] := by unfold takeH; simp [he]
        rw [h1] at Hsn
        obtain ⟨fn, fd, sf⟩ := f
        dsimp only at e0 e1 e2 d1
        obtain ⟨n0, hn0⟩ : ∃ n0, n0 = fd.length := ⟨_, rfl⟩
        have Hrd := Lib.hid (show RdN (wr.alloc (.cells #[.string fn, .slice Af n0 cf, .int .i64 sf] 58)) 3 (some ⟨wr.heap.size, 0, none⟩) 1 (flCells [(⟨fn, fd, sf⟩, Af, cf)]) from by rw [hn0]; exact rdV_new wr _ ⟨fn, fd, sf⟩ Af cf rfl)
        rw [← hn0] at e1
        clear he hn0
        go_wp2_with (change wpList _ _ _ (⟨some 26, _, _, _, _, _⟩ :: _) _ _; refine wpV_append rfl (.tmp 20) (.tmp 25) rfl w rfl (own_ext (ExtA (Ext.rfl' wr)) Hown.out) (ExtA hx) rfl Hrd.out (by rw [← Hm.out]; simp; omega) ?_; intro A3 n3 c3 w3 hx3 hn3 hown3 hk3 hg3)
        go_roundw
        case rel => exact ⟨k + 1, A3, n3, c3, by go_num, by rw [Hl.out]; omega, rfl, by rw [Hsn.out, hn3.out, List.length_append], hx3, by rw [Hsn.out]; exact hown3⟩
        case measure => simp [intOf]; omega
    · obtain rfl : k = n := by omega
      have ht : hs.take k = hs := List.take_of_length_le (by rw [Hl.out]; exact Nat.le_refl _)
      have Ht := Lib.hid ht
      clear ht
      go_wp2_with fail
      go_ret
      have h1 := Hm.out
      have h2 := Hown.out
      rw [Ht.out] at h1 h2
      subst h1
      exact ⟨A1, c1, rfl, hx, h2⟩
/-- b > a, as Go's > of strings is walked. -/
def ltN (a b : ByteArray) : Bool := !Op.bytesLess b.toList a.toList && !b.toList == a.toList
theorem own_emptyF (w : World) (base g : Nat) (hg : w.heap.size = g) (hb : base ≤ g) : (w.alloc (.cells #[] 58)).ownsRow base 58 3 (.slice (some ⟨g, 0, none⟩) 0 0) 0 (flCells []) := by
  subst hg
  exact own_new w base #[] _ 0 hb (by decide) rfl
def gtH (x f : HV) : Bool := ltN f.1.name x.1.name
def putH (f : HV) : List HV → List HV
  | [] => [f]
  | x :: r => if gtH x f then f :: x :: r else x :: putH f r
theorem put_all {f : HV} : ∀ {l : List HV}, (∀ x ∈ l, gtH x f = false) → putH f l = l ++ [f] := by
  intro l
  induction l with
  | nil => intro _; rfl
  | cons x r ih =>
    intro h
    unfold putH
    rw [if_neg (by rw [h x (by simp)]; exact Bool.false_ne_true), ih (fun y hy => h y (List.mem_cons_of_mem _ hy))]
    rfl
theorem put_here {f x : HV} : ∀ {l : List HV}, (∀ x ∈ l, gtH x f = false) → gtH x f = true → putH f (l ++ [x]) = l ++ [f, x] := by
  intro l
  induction l with
  | nil => intro _ hx; simp [putH, hx]
  | cons y r ih =>
    intro h hx
    rw [List.cons_append]
    unfold putH
    rw [if_neg (by rw [h y (by simp)]; exact Bool.false_ne_true), ih (fun z hz => h z (List.mem_cons_of_mem _ hz)) hx]
    rfl
theorem put_snoc {f x : HV} : ∀ {l : List HV}, (∃ y ∈ l, gtH y f = true) → putH f (l ++ [x]) = putH f l ++ [x] := by
  intro l
  induction l with
  | nil => intro ⟨y, hy, _⟩; cases hy
  | cons y r ih =>
    intro ⟨z, hz, hg⟩
    rw [List.cons_append]
    unfold putH
    by_cases hy : gtH y f = true
    · rw [if_pos hy, if_pos hy]; rfl
    · rw [if_neg hy, if_neg hy, List.cons_append]
      congr 1
      refine ih ?_
      rcases List.mem_cons.1 hz with h1 | h1
      · subst h1; exact absurd hg hy
      · exact ⟨z, h1, hg⟩
theorem put_len (f : HV) (l : List HV) : (putH f l).length = l.length + 1 := by
  induction l with
  | nil => rfl
  | cons x r ih =>
    unfold putH
    split
    · simp
    · rw [List.length_cons, ih, List.length_cons]
def PutR (w : World) (hs : List HV) (f : HV) (c5 c6 c11 : Value) (wr : World) : Prop :=
  ∃ (k : Nat) (A : Option Addr) (m c : Nat) (dn : Bool), c11 = .int .i64 k ∧ k ≤ hs.length ∧ c5 = .slice A m c ∧ c6 = .bool dn ∧ Ext w wr ∧
    (if dn = true then m = k + 1 ∧ (∃ y ∈ hs.take k, gtH y f = true) ∧ wr.ownsRow w.heap.size 58 3 (.slice A m c) m (flCells (putH f (hs.take k)))
     else m = k ∧ (∀ y ∈ hs.take k, gtH y f = false) ∧ wr.ownsRow w.heap.size 58 3 (.slice A m c) m (flCells (hs.take k)))
set_option maxRecDepth 100000 in
set_option maxHeartbeats 4000000 in
theorem rput_any (A : Option Addr) (n c : Nat) (hs : List HV) (f : FV) (Av : Option Addr) (cv : Nat) (w : World) (hr : RdN w 3 A n (flCells hs)) (hn : n ≤ 2000000) :
    Calls Tryz.prog 50 #[.slice A n c, .agg #[.string f.name, .slice Av f.data.length cv, .int .i64 f.safe]] w (GaveH w (putH (f, Av, cv) hs)) := by
  have hl : hs.length = n := by have := hr.1; rw [flCells_len] at this; omega
  have Hl := Lib.hid hl
  clear hl
  go_enter Tryz.func50, Tryz.ntmps50
  go_wp2_with fail
  go_loopw [5, 6, 11] (fun c5 c6 c11 wr => PutR (w.alloc (.cells #[.string f.name, .slice Av f.data.length cv, .int .i64 f.safe] 58)) hs (f, Av, cv) c5 c6 c11 wr) (fun _ _ c11 _ => n - (intOf c11).toNat)
  case atStart => exact ⟨0, _, 0, _, false, rfl, by omega, rfl, rfl, exA, by
    rw [if_neg Bool.false_ne_true]
    exact ⟨rfl, fun y hy => by simp at hy, own_emptyF (w.alloc (.cells #[.string f.name, .slice Av f.data.length cv, .int .i64 f.safe] 58)) _ _ (by simp) (by simp)⟩⟩
  case round =>
    obtain ⟨k, A1, m, c1, dn, rfl, hk, rfl, rfl, hx, hD⟩ := hrel
    rw [Hl.out] at hk
    have HD := Lib.hid hD
    clear hD
    have hxw : Ext w wr := (ExtA (Ext.rfl' w)).tr hx
    have b0 : wr.cell? ⟨w.heap.size, 0, none⟩ = some (.string f.name) := hx.cell (by simp)
    have b1 : wr.cell? ⟨w.heap.size, 1, none⟩ = some (.slice Av f.data.length cv) := hx.cell (by simp)
    have b2 : wr.cell? ⟨w.heap.size, 2, none⟩ = some (.int .i64 f.safe) := hx.cell (by simp)
    by_cases hlt : k < n
    · obtain ⟨b, o, x, Ax, cx, hfk, rfl, hc0⟩ := hv_at hr hlt
      have hc := range_ext hc0 hxw
      have HC := Lib.hid fun (w2 : World) (h2 : Ext (w.alloc (.cells #[.string f.name, .slice Av f.data.length cv, .int .i64 f.safe] 58)) w2) => range_ext hc0 ((ExtA (Ext.rfl' w)).tr h2)
      clear hc0
      have e0 := hc 0 _ rfl
      have e1 := hc 1 _ rfl
      have e2 := hc 2 _ rfl
      simp only [Nat.add_zero] at e0
      have hf2 : hs.take (k + 1) = hs.take k ++ [(x, Ax, cx)] := by rw [List.take_add_one, hfk]; rfl
      have Hf2 := Lib.hid hf2
      clear hfk hc hr hf2
      have Hrx := Lib.hid fun (W' : World) => (show RdN (W'.alloc (.cells #[.string x.name, .slice Ax x.data.length cx, .int .i64 x.safe] 58)) 3 (some ⟨W'.heap.size, 0, none⟩) 1 (flCells [(x, Ax, cx)]) from rdV_new W' _ x Ax cx rfl)
      have Hrf := Lib.hid fun (W' : World) => (show RdN (W'.alloc (.cells #[.string f.name, .slice Av f.data.length cv, .int .i64 f.safe] 58)) 3 (some ⟨W'.heap.size, 0, none⟩) 1 (flCells [(f, Av, cv)]) from rdV_new W' _ f Av cv rfl)
      cases dn
      · simp only [Bool.false_eq_true, if_false] at HD
        obtain rfl : m = k := HD.out.1
        go_wp2_with fail
        go_quiet (fail)
        generalize hq : (!Op.bytesLess x.name.toList f.name.toList && !x.name.toList == f.name.toList) = q
        have hq : gtH (x, Ax, cx) (f, Av, cv) = q := hq
        have Hq := Lib.hid hq
        clear hq
        cases q
        · go_wp2_with (change wpList _ _ _ (⟨some 36, _, _, _, _, _⟩ :: _) _ _; refine wpV_append rfl (.tmp 30) (.tmp 35) rfl (w.alloc (.cells #[.string f.name, .slice Av f.data.length cv, .int .i64 f.safe] 58)) rfl (own_ext (w := wr) exA HD.out.2.2) exA rfl (Hrx.out _) (by have := Hl.out; simp [put_len]; omega) ?_; intro A3 n3 c3 w3 hx3 hn3 hown3 hk3 hg3)
          go_roundw
          case rel =>
            have hn : n3 = m + 1 := by have := hn3.out; have := Hl.out; simp at *; omega
            subst hn
            refine ⟨m + 1, A3, _, c3, false, by go_num, by rw [Hl.out]; omega, rfl, rfl, hx3, ?_⟩
            rw [if_neg Bool.false_ne_true, Hf2.out]
            refine ⟨rfl, fun y hy => ?_, hown3⟩
            rcases List.mem_append.1 hy with h1 | h1
            · exact HD.out.2.1 y h1
            · simp only [List.mem_singleton] at h1; subst h1; exact Hq.out
          case measure => simp [intOf]; omega
        · go_wp2_with (first | (change wpList _ _ _ (⟨some 29, _, _, _, _, _⟩ :: _) _ _; refine wpV_append rfl (.tmp 26) (.tmp 28) rfl (w.alloc (.cells #[.string f.name, .slice Av f.data.length cv, .int .i64 f.safe] 58)) rfl (own_ext (w := wr) exA HD.out.2.2) exA rfl (Hrf.out _) (by have := Hl.out; simp; omega) ?_; intro A2 n2 c2 w2 hx2 hn2 hown2 hk2 hg2; have e0' : w2.cell? ⟨b, o + m * 3, none⟩ = some (.string x.name) := (by have := HC.out w2 hx2 0 _ rfl; simpa using this); have e1' : w2.cell? ⟨b, o + m * 3 + 1, none⟩ = some (.slice Ax x.data.length cx) := HC.out w2 hx2 1 _ rfl; have e2' : w2.cell? ⟨b, o + m * 3 + 2, none⟩ = some (.int .i64 x.safe) := HC.out w2 hx2 2 _ rfl) | (change wpList _ _ _ (⟨some 36, _, _, _, _, _⟩ :: _) _ _; refine wpV_append rfl (.tmp 30) (.tmp 35) rfl (w.alloc (.cells #[.string f.name, .slice Av f.data.length cv, .int .i64 f.safe] 58)) rfl (own_ext (w := w2) exA hown2) exA rfl (Hrx.out _) (by have := Hl.out; simp [put_len]; omega) ?_; intro A3 n3 c3 w3 hx3 hn3 hown3 hk3 hg3))
          go_roundw
          case rel =>
            have hn : n3 = m + 1 + 1 := by have := hn3.out; have := Hl.out; simp at *; omega
            subst hn
            refine ⟨m + 1, A3, _, c3, true, by go_num, by rw [Hl.out]; omega, rfl, rfl, hx3, ?_⟩
            rw [if_pos rfl, Hf2.out]
            refine ⟨rfl, ⟨_, List.mem_append_right _ (List.mem_singleton.2 rfl), Hq.out⟩, ?_⟩
            rw [put_here HD.out.2.1 Hq.out]
            rw [List.append_assoc] at hown3
            exact hown3
          case measure => simp [intOf]; omega
      · simp only [if_true] at HD
        obtain rfl : m = k + 1 := HD.out.1
        go_wp2_with fail
        go_quiet (fail)
        go_wp2_with (change wpList _ _ _ (⟨some 36, _, _, _, _, _⟩ :: _) _ _; refine wpV_append rfl (.tmp 30) (.tmp 35) rfl (w.alloc (.cells #[.string f.name, .slice Av f.data.length cv, .int .i64 f.safe] 58)) rfl (own_ext (w := wr) exA HD.out.2.2) exA rfl (Hrx.out _) (by have := Hl.out; simp [put_len]; omega) ?_; intro A3 n3 c3 w3 hx3 hn3 hown3 hk3 hg3)
        go_roundw
        case rel =>
          have hn : n3 = k + 1 + 1 := by have := hn3.out; have := Hl.out; simp [put_len] at *; omega
          subst hn
          refine ⟨k + 1, A3, _, c3, true, by go_num, by rw [Hl.out]; omega, rfl, rfl, hx3, ?_⟩
          rw [if_pos rfl, Hf2.out]
          refine ⟨rfl, ?_, ?_⟩
          · obtain ⟨y, hy, hg⟩ := HD.out.2.1
            exact ⟨y, List.mem_append_left _ hy, hg⟩
          · rw [put_snoc HD.out.2.1]
            exact hown3
        case measure => simp [intOf]; omega
    · obtain rfl : k = n := by omega
      have Ht := Lib.hid (show hs.take k = hs from List.take_of_length_le (by rw [Hl.out]; exact Nat.le_refl _))
      have Hrf := Lib.hid fun (W' : World) => (show RdN (W'.alloc (.cells #[.string f.name, .slice Av f.data.length cv, .int .i64 f.safe] 58)) 3 (some ⟨W'.heap.size, 0, none⟩) 1 (flCells [(f, Av, cv)]) from rdV_new W' _ f Av cv rfl)
      cases dn
      · simp only [Bool.false_eq_true, if_false] at HD
        obtain rfl : m = k := HD.out.1
        go_wp2_with (change wpList _ _ _ (⟨some 43, _, _, _, _, _⟩ :: _) _ _; refine wpV_append rfl (.tmp 40) (.tmp 42) rfl (w.alloc (.cells #[.string f.name, .slice Av f.data.length cv, .int .i64 f.safe] 58)) rfl (own_ext (w := wr) exA HD.out.2.2) exA rfl (Hrf.out _) (by have := Hl.out; simp; omega) ?_; intro A3 n3 c3 w3 hx3 hn3 hown3 hk3 hg3)
        go_ret
        have hn : n3 = (putH (f, Av, cv) hs).length := by have := hn3.out; have := Hl.out; rw [put_len]; simp at *; omega
        have ho := hown3
        have hp := HD.out.2.1
        rw [Ht.out] at ho hp
        rw [← put_all hp] at ho
        subst hn
        exact ⟨A3, c3, rfl, (ExtA (Ext.rfl' w)).tr hx3, own_base ho (by simp)⟩
      · simp only [if_true] at HD
        obtain rfl : m = k + 1 := HD.out.1
        go_wp2_with fail
        go_ret
        have hn : k + 1 = (putH (f, Av, cv) hs).length := by rw [put_len, Hl.out]
        have ho := HD.out.2.2
        rw [Ht.out, hn] at ho
        rw [hn]
        exact ⟨A1, c1, rfl, hxw, own_base ho (by simp)⟩
end Go.Proofs.YtjajbbgebblalaaGreatDoor

namespace Go.Proofs.YtjajbbgebblalaaGreatDoor
open Go.RowKit
set_option linter.unusedVariables false
set_option linter.unusedSimpArgs false
def barE (fs : List FV) (room : Int) (down : Bool) (K : Int) (nm tn : ByteArray) (bl : Nat) (N M : Int) : Int :=
  if down = true then 3
  else if rightB nm = false ∨ (K = 3 ∧ rightB tn = false) then 50
  else if K = 0 then (if 0 ≤ atI fs nm then 52 else if 700 ≤ fs.length then 53 else 0)
  else if atI fs nm < 0 then 51
  else if K = 1 ∧ room - (sumV fs : Nat) < (bl : Nat) then 54
  else if K = 5 ∧ (N < 0 ∨ (((fs[(atI fs nm).toNat]?.map (·.data.length)).getD 0 : Nat) : Int) < N) then 1
  else if K = 6 ∧ (N < 0 ∨ M < 0 ∨ (((fs[(atI fs nm).toNat]?.map (·.data.length)).getD 0 : Nat) : Int) < N ∨ (((fs[(atI fs nm).toNat]?.map (·.data.length)).getD 0 : Nat) : Int) - N < M) then 1
  else 0
theorem at_range (fs : List FV) (nm : ByteArray) : atI fs nm = -1 ∨ ∃ (k : Nat) (f : FV), atI fs nm = (k : Nat) ∧ fs[k]? = some f ∧ f.name = nm := by
  unfold atI
  cases h : fs.findIdx? (fun f => decide (f.name = nm)) with
  | none => exact .inl rfl
  | some i =>
    obtain ⟨hl, hv, _⟩ := List.findIdx?_eq_some_iff_getElem.1 h
    exact .inr ⟨i, fs[i], rfl, List.getElem?_eq_getElem hl, of_decide_eq_true hv⟩
set_option maxRecDepth 100000 in
set_option maxHeartbeats 8000000 in
theorem rbar_low (A : Option Addr) (n c : Nat) (fs : List FV) (r1 r2 r4 r5 : Int) (r3 : Bool) (K : Int) (nm tn : ByteArray) (B : Option Addr) (bl bc : Nat) (N M : Int) (AK : Option Addr) (kl kc : Nat) (w : World) (hr : FlRd w A n fs) (hn : n ≤ 2000000)
    (hd : r3 = true ∨ (rightB nm = false ∨ (K = 3 ∧ rightB tn = false)) ∨ K = 0 ∨ atI fs nm < 0) :
    Calls Tryz.prog 58 #[.agg #[.slice A n c, .int .i64 r1, .int .i64 r2, .bool r3, .int .i64 r4, .int .i64 r5], .agg #[.int .i64 K, .string nm, .string tn, .slice B bl bc, .int .i64 N, .int .i64 M, .slice AK kl kc]] w
      fun e w' => e = .returned (.int .i64 (barE fs r1 r3 K nm tn bl N M)) ∧ Ext w w' := by
  have hl := hr.len
  have KR := Lib.hid fun s w1 => rright_any s w1
  have KA := Lib.hid fun (w1 : World) (h : Ext w w1) => rat_any A n c fs r1 r2 r4 r5 r3 nm w1 (hr.ext h) (by simp only [maxLen]; omega)
  cases r3
  · simp only [Bool.false_eq_true, false_or] at hd
    have HS := Lib.hid fun (w' : World) (h : Ext ((w.alloc (.cells #[.slice A n c, .int .i64 r1, .int .i64 r2, .bool false, .int .i64 r4, .int .i64 r5] 28)).alloc (.cells #[.int .i64 K, .string nm, .string tn, .slice B bl bc, .int .i64 N, .int .i64 M, .slice AK kl kc] 44)) w') => (show w'.cell? ⟨w.heap.size, 0, none⟩ = some (.slice A n c) ∧ w'.cell? ⟨w.heap.size, 1, none⟩ = some (.int .i64 r1) ∧ w'.cell? ⟨w.heap.size, 2, none⟩ = some (.int .i64 r2) ∧ w'.cell? ⟨w.heap.size, 3, none⟩ = some (.bool false) ∧ w'.cell? ⟨w.heap.size, 4, none⟩ = some (.int .i64 r4) ∧ w'.cell? ⟨w.heap.size, 5, none⟩ = some (.int .i64 r5) ∧ w'.cell? ⟨w.heap.size + 1, 0, none⟩ = some (.int .i64 K) ∧ w'.cell? ⟨w.heap.size + 1, 1, none⟩ = some (.string nm) ∧ w'.cell? ⟨w.heap.size + 1, 2, none⟩ = some (.string tn) ∧ w'.cell? ⟨w.heap.size + 1, 3, none⟩ = some (.slice B bl bc) ∧ w'.cell? ⟨w.heap.size + 1, 4, none⟩ = some (.int .i64 N) ∧ w'.cell? ⟨w.heap.size + 1, 5, none⟩ = some (.int .i64 M) from ⟨h.cell (by simp), h.cell (by simp), h.cell (by simp), h.cell (by simp), h.cell (by simp), h.cell (by simp), h.cell (by simp), h.cell (by simp), h.cell (by simp), h.cell (by simp), h.cell (by simp), h.cell (by simp)⟩)
    have K1 := Lib.hid fun w1 => KR.out nm w1
    have K2 := Lib.hid fun w1 => KR.out tn w1
    have hE : barE fs r1 false K nm tn bl N M = barE fs r1 false K nm tn bl N M := rfl
    conv at hE => rhs; unfold barE
    simp only [Bool.false_eq_true, if_false] at hE
    rw [hE]
    clear hE
    generalize rightB nm = q1 at *
    generalize rightB tn = q2 at *
    cases q1
    · rw [if_pos (.inl rfl)]
      clear hd
      go_enter Tryz.func58, Tryz.ntmps58
      go_wp2_with (go_at_call 49; go_loud ((with_reducible refine (K1.out _).mono ?_); rintro e w5 ⟨rfl, hx5⟩))
      go_ret
      exact ⟨rfl, exA⟩
    · by_cases h3 : K = 3 ∧ q2 = false
      · obtain ⟨rfl, rfl⟩ := h3
        rw [if_pos (.inr ⟨rfl, rfl⟩)]
        clear hd
        go_enter Tryz.func58, Tryz.ntmps58
        go_wp2_with (first
          | (go_at_call 49; (with_reducible refine (K1.out _).mono ?_); rintro e w5 ⟨rfl, hx5⟩; have h5 : Ext ((w.alloc (.cells #[.slice A n c, .int .i64 r1, .int .i64 r2, .bool false, .int .i64 r4, .int .i64 r5] 28)).alloc (.cells #[.int .i64 3, .string nm, .string tn, .slice B bl bc, .int .i64 N, .int .i64 M, .slice AK kl kc] 44)) w5 := hx5; obtain ⟨y0, y1, y2, y3, y4, y5, y6, y7, y8, y9, y10, y11⟩ := HS.out w5 h5)
          | (go_at_call 49; (with_reducible refine (K2.out _).mono ?_); rintro e w6 ⟨rfl, hx6⟩; have h6 : Ext ((w.alloc (.cells #[.slice A n c, .int .i64 r1, .int .i64 r2, .bool false, .int .i64 r4, .int .i64 r5] 28)).alloc (.cells #[.int .i64 3, .string nm, .string tn, .slice B bl bc, .int .i64 N, .int .i64 M, .slice AK kl kc] 44)) w6 := h5.tr hx6; obtain ⟨u0, u1, u2, u3, u4, u5, u6, u7, u8, u9, u10, u11⟩ := HS.out w6 h6)
          | (go_at_call 24; (with_reducible refine (KA.out _ exA).mono ?_); rintro e w7 ⟨rfl, hx7⟩; have h7 : Ext ((w.alloc (.cells #[.slice A n c, .int .i64 r1, .int .i64 r2, .bool false, .int .i64 r4, .int .i64 r5] 28)).alloc (.cells #[.int .i64 3, .string nm, .string tn, .slice B bl bc, .int .i64 N, .int .i64 M, .slice AK kl kc] 44)) w7 := exA; obtain ⟨v0, v1, v2, v3, v4, v5, v6, v7, v8, v9, v10, v11⟩ := HS.out w7 h7))
        go_ret
        exact ⟨rfl, exA⟩
      · rw [if_neg (by rintro (h | h); exact Bool.noConfusion h; exact h3 h)]
        by_cases hK0 : K = 0
        · subst hK0
          rw [if_pos rfl]
          have HL := Lib.hid hl
          clear hd h3 hl
          rcases at_range fs nm with ha | ⟨k, f, ha, -, -⟩
          · rw [ha] at KA ⊢
            rw [if_neg (by omega), HL.out]
            by_cases h7 : 700 ≤ n
            · rw [if_pos h7]
              go_enter Tryz.func58, Tryz.ntmps58
              go_wp2_with (first
          | (go_at_call 49; (with_reducible refine (K1.out _).mono ?_); rintro e w5 ⟨rfl, hx5⟩; have h5 : Ext ((w.alloc (.cells #[.slice A n c, .int .i64 r1, .int .i64 r2, .bool false, .int .i64 r4, .int .i64 r5] 28)).alloc (.cells #[.int .i64 0, .string nm, .string tn, .slice B bl bc, .int .i64 N, .int .i64 M, .slice AK kl kc] 44)) w5 := hx5; obtain ⟨y0, y1, y2, y3, y4, y5, y6, y7, y8, y9, y10, y11⟩ := HS.out w5 h5)
          | (go_at_call 49; (with_reducible refine (K2.out _).mono ?_); rintro e w6 ⟨rfl, hx6⟩; have h6 : Ext ((w.alloc (.cells #[.slice A n c, .int .i64 r1, .int .i64 r2, .bool false, .int .i64 r4, .int .i64 r5] 28)).alloc (.cells #[.int .i64 0, .string nm, .string tn, .slice B bl bc, .int .i64 N, .int .i64 M, .slice AK kl kc] 44)) w6 := h5.tr hx6; obtain ⟨u0, u1, u2, u3, u4, u5, u6, u7, u8, u9, u10, u11⟩ := HS.out w6 h6)
          | (go_at_call 24; (with_reducible refine (KA.out _ exA).mono ?_); rintro e w7 ⟨rfl, hx7⟩; have h7 : Ext ((w.alloc (.cells #[.slice A n c, .int .i64 r1, .int .i64 r2, .bool false, .int .i64 r4, .int .i64 r5] 28)).alloc (.cells #[.int .i64 0, .string nm, .string tn, .slice B bl bc, .int .i64 N, .int .i64 M, .slice AK kl kc] 44)) w7 := exA; obtain ⟨v0, v1, v2, v3, v4, v5, v6, v7, v8, v9, v10, v11⟩ := HS.out w7 h7))
              go_ret
              exact ⟨rfl, exA⟩
            · rw [if_neg h7]
              go_enter Tryz.func58, Tryz.ntmps58
              go_wp2_with (first
          | (go_at_call 49; (with_reducible refine (K1.out _).mono ?_); rintro e w5 ⟨rfl, hx5⟩; have h5 : Ext ((w.alloc (.cells #[.slice A n c, .int .i64 r1, .int .i64 r2, .bool false, .int .i64 r4, .int .i64 r5] 28)).alloc (.cells #[.int .i64 0, .string nm, .string tn, .slice B bl bc, .int .i64 N, .int .i64 M, .slice AK kl kc] 44)) w5 := hx5; obtain ⟨y0, y1, y2, y3, y4, y5, y6, y7, y8, y9, y10, y11⟩ := HS.out w5 h5)
          | (go_at_call 49; (with_reducible refine (K2.out _).mono ?_); rintro e w6 ⟨rfl, hx6⟩; have h6 : Ext ((w.alloc (.cells #[.slice A n c, .int .i64 r1, .int .i64 r2, .bool false, .int .i64 r4, .int .i64 r5] 28)).alloc (.cells #[.int .i64 0, .string nm, .string tn, .slice B bl bc, .int .i64 N, .int .i64 M, .slice AK kl kc] 44)) w6 := h5.tr hx6; obtain ⟨u0, u1, u2, u3, u4, u5, u6, u7, u8, u9, u10, u11⟩ := HS.out w6 h6)
          | (go_at_call 24; (with_reducible refine (KA.out _ exA).mono ?_); rintro e w7 ⟨rfl, hx7⟩; have h7 : Ext ((w.alloc (.cells #[.slice A n c, .int .i64 r1, .int .i64 r2, .bool false, .int .i64 r4, .int .i64 r5] 28)).alloc (.cells #[.int .i64 0, .string nm, .string tn, .slice B bl bc, .int .i64 N, .int .i64 M, .slice AK kl kc] 44)) w7 := exA; obtain ⟨v0, v1, v2, v3, v4, v5, v6, v7, v8, v9, v10, v11⟩ := HS.out w7 h7))
              go_ret
              exact ⟨rfl, exA⟩
          · rw [ha] at KA ⊢
            rw [if_pos (by omega)]
            go_enter Tryz.func58, Tryz.ntmps58
            go_wp2_with (first
          | (go_at_call 49; (with_reducible refine (K1.out _).mono ?_); rintro e w5 ⟨rfl, hx5⟩; have h5 : Ext ((w.alloc (.cells #[.slice A n c, .int .i64 r1, .int .i64 r2, .bool false, .int .i64 r4, .int .i64 r5] 28)).alloc (.cells #[.int .i64 0, .string nm, .string tn, .slice B bl bc, .int .i64 N, .int .i64 M, .slice AK kl kc] 44)) w5 := hx5; obtain ⟨y0, y1, y2, y3, y4, y5, y6, y7, y8, y9, y10, y11⟩ := HS.out w5 h5)
          | (go_at_call 49; (with_reducible refine (K2.out _).mono ?_); rintro e w6 ⟨rfl, hx6⟩; have h6 : Ext ((w.alloc (.cells #[.slice A n c, .int .i64 r1, .int .i64 r2, .bool false, .int .i64 r4, .int .i64 r5] 28)).alloc (.cells #[.int .i64 0, .string nm, .string tn, .slice B bl bc, .int .i64 N, .int .i64 M, .slice AK kl kc] 44)) w6 := h5.tr hx6; obtain ⟨u0, u1, u2, u3, u4, u5, u6, u7, u8, u9, u10, u11⟩ := HS.out w6 h6)
          | (go_at_call 24; (with_reducible refine (KA.out _ exA).mono ?_); rintro e w7 ⟨rfl, hx7⟩; have h7 : Ext ((w.alloc (.cells #[.slice A n c, .int .i64 r1, .int .i64 r2, .bool false, .int .i64 r4, .int .i64 r5] 28)).alloc (.cells #[.int .i64 0, .string nm, .string tn, .slice B bl bc, .int .i64 N, .int .i64 M, .slice AK kl kc] 44)) w7 := exA; obtain ⟨v0, v1, v2, v3, v4, v5, v6, v7, v8, v9, v10, v11⟩ := HS.out w7 h7))
            go_ret
            exact ⟨rfl, exA⟩
        · rw [if_neg hK0]
          have ha : atI fs nm = -1 := by
            rcases at_range fs nm with ha | ⟨k, f, ha, -, -⟩
            · exact ha
            · rcases hd with (h | h) | h | h
              · exact Bool.noConfusion h
              · exact absurd h h3
              · exact absurd h hK0
              · omega
          rw [ha] at KA ⊢
          rw [if_pos (by omega)]
          have k0 : (K == 0) = false := by simpa using hK0
          clear hd hK0
          by_cases hK3 : K = 3
          · subst hK3
            obtain rfl : q2 = true := by cases q2; exact absurd ⟨rfl, rfl⟩ h3; rfl
            clear h3
            go_enter Tryz.func58, Tryz.ntmps58
            go_wp2_with (first
          | (go_at_call 49; (with_reducible refine (K1.out _).mono ?_); rintro e w5 ⟨rfl, hx5⟩; have h5 : Ext ((w.alloc (.cells #[.slice A n c, .int .i64 r1, .int .i64 r2, .bool false, .int .i64 r4, .int .i64 r5] 28)).alloc (.cells #[.int .i64 3, .string nm, .string tn, .slice B bl bc, .int .i64 N, .int .i64 M, .slice AK kl kc] 44)) w5 := hx5; obtain ⟨y0, y1, y2, y3, y4, y5, y6, y7, y8, y9, y10, y11⟩ := HS.out w5 h5)
          | (go_at_call 49; (with_reducible refine (K2.out _).mono ?_); rintro e w6 ⟨rfl, hx6⟩; have h6 : Ext ((w.alloc (.cells #[.slice A n c, .int .i64 r1, .int .i64 r2, .bool false, .int .i64 r4, .int .i64 r5] 28)).alloc (.cells #[.int .i64 3, .string nm, .string tn, .slice B bl bc, .int .i64 N, .int .i64 M, .slice AK kl kc] 44)) w6 := h5.tr hx6; obtain ⟨u0, u1, u2, u3, u4, u5, u6, u7, u8, u9, u10, u11⟩ := HS.out w6 h6)
          | (go_at_call 24; (with_reducible refine (KA.out _ exA).mono ?_); rintro e w7 ⟨rfl, hx7⟩; have h7 : Ext ((w.alloc (.cells #[.slice A n c, .int .i64 r1, .int .i64 r2, .bool false, .int .i64 r4, .int .i64 r5] 28)).alloc (.cells #[.int .i64 3, .string nm, .string tn, .slice B bl bc, .int .i64 N, .int .i64 M, .slice AK kl kc] 44)) w7 := exA; obtain ⟨v0, v1, v2, v3, v4, v5, v6, v7, v8, v9, v10, v11⟩ := HS.out w7 h7))
            go_ret
            exact ⟨rfl, exA⟩
          · have k3 : (K == 3) = false := by simpa using hK3
            clear h3 hK3
            go_enter Tryz.func58, Tryz.ntmps58
            go_wp2_with (first
          | (go_at_call 49; (with_reducible refine (K1.out _).mono ?_); rintro e w5 ⟨rfl, hx5⟩; have h5 : Ext ((w.alloc (.cells #[.slice A n c, .int .i64 r1, .int .i64 r2, .bool false, .int .i64 r4, .int .i64 r5] 28)).alloc (.cells #[.int .i64 K, .string nm, .string tn, .slice B bl bc, .int .i64 N, .int .i64 M, .slice AK kl kc] 44)) w5 := hx5; obtain ⟨y0, y1, y2, y3, y4, y5, y6, y7, y8, y9, y10, y11⟩ := HS.out w5 h5)
          | (go_at_call 49; (with_reducible refine (K2.out _).mono ?_); rintro e w6 ⟨rfl, hx6⟩; have h6 : Ext ((w.alloc (.cells #[.slice A n c, .int .i64 r1, .int .i64 r2, .bool false, .int .i64 r4, .int .i64 r5] 28)).alloc (.cells #[.int .i64 K, .string nm, .string tn, .slice B bl bc, .int .i64 N, .int .i64 M, .slice AK kl kc] 44)) w6 := h5.tr hx6; obtain ⟨u0, u1, u2, u3, u4, u5, u6, u7, u8, u9, u10, u11⟩ := HS.out w6 h6)
          | (go_at_call 24; (with_reducible refine (KA.out _ exA).mono ?_); rintro e w7 ⟨rfl, hx7⟩; have h7 : Ext ((w.alloc (.cells #[.slice A n c, .int .i64 r1, .int .i64 r2, .bool false, .int .i64 r4, .int .i64 r5] 28)).alloc (.cells #[.int .i64 K, .string nm, .string tn, .slice B bl bc, .int .i64 N, .int .i64 M, .slice AK kl kc] 44)) w7 := exA; obtain ⟨v0, v1, v2, v3, v4, v5, v6, v7, v8, v9, v10, v11⟩ := HS.out w7 h7))
            go_ret
            exact ⟨rfl, exA⟩
  · have he : barE fs r1 true K nm tn bl N M = 3 := by unfold barE; rw [if_pos rfl]
    rw [he]
    clear hd
    go_enter Tryz.func58, Tryz.ntmps58
    go_wp2_with fail
    go_ret
    exact ⟨rfl, exA⟩
set_option maxRecDepth 100000 in
set_option maxHeartbeats 8000000 in
theorem rbar_high (A : Option Addr) (n c : Nat) (fs : List FV) (r1 r2 r4 r5 : Int) (K : Int) (nm tn : ByteArray) (B : Option Addr) (bl bc : Nat) (N M : Int) (AK : Option Addr) (kl kc : Nat) (w : World) (hr : FlRd w A n fs) (hn : n ≤ 2000000)
    (h1 : rightB nm = true) (h3 : ¬ (K = 3 ∧ rightB tn = false)) (hK0 : K ≠ 0) (hK1 : K ≠ 1) (k : Nat) (f : FV) (ha : atI fs nm = (k : Nat)) (hf : fs[k]? = some f) (hfl : f.data.length ≤ 67108864) (hN : IsI64 N) (hM : IsI64 M) :
    Calls Tryz.prog 58 #[.agg #[.slice A n c, .int .i64 r1, .int .i64 r2, .bool false, .int .i64 r4, .int .i64 r5], .agg #[.int .i64 K, .string nm, .string tn, .slice B bl bc, .int .i64 N, .int .i64 M, .slice AK kl kc]] w
      fun e w' => e = .returned (.int .i64 (barE fs r1 false K nm tn bl N M)) ∧ Ext w w' := by
  have hl := hr.len
  unfold IsI64 at hN hM
  have hkn : k < n := by rw [← hl]; exact (List.getElem?_eq_some_iff.1 hf).1
  have KR := Lib.hid fun s w1 => rright_any s w1
  have KA := Lib.hid fun (w1 : World) (h : Ext w w1) => rat_any A n c fs r1 r2 r4 r5 false nm w1 (hr.ext h) (by simp only [maxLen]; omega)
  rw [ha] at KA
  have hE : barE fs r1 false K nm tn bl N M = if K = 5 ∧ (N < 0 ∨ (f.data.length : Int) < N) then 1 else if K = 6 ∧ (N < 0 ∨ M < 0 ∨ (f.data.length : Int) < N ∨ (f.data.length : Int) - N < M) then 1 else 0 := by
    unfold barE
    rw [if_neg (by simp), if_neg (by rw [h1]; rintro (h | h); exact Bool.noConfusion h; exact h3 h), if_neg hK0, if_neg (by rw [ha]; omega), if_neg (fun h => hK1 h.1), ha]
    simp only [Int.toNat_natCast, hf, Option.map_some, Option.getD_some]
  rw [hE]
  clear hE
  have HS := Lib.hid fun (w' : World) (h : Ext ((w.alloc (.cells #[.slice A n c, .int .i64 r1, .int .i64 r2, .bool false, .int .i64 r4, .int .i64 r5] 28)).alloc (.cells #[.int .i64 K, .string nm, .string tn, .slice B bl bc, .int .i64 N, .int .i64 M, .slice AK kl kc] 44)) w') => (show w'.cell? ⟨w.heap.size, 0, none⟩ = some (.slice A n c) ∧ w'.cell? ⟨w.heap.size, 1, none⟩ = some (.int .i64 r1) ∧ w'.cell? ⟨w.heap.size, 2, none⟩ = some (.int .i64 r2) ∧ w'.cell? ⟨w.heap.size, 3, none⟩ = some (.bool false) ∧ w'.cell? ⟨w.heap.size, 4, none⟩ = some (.int .i64 r4) ∧ w'.cell? ⟨w.heap.size, 5, none⟩ = some (.int .i64 r5) ∧ w'.cell? ⟨w.heap.size + 1, 0, none⟩ = some (.int .i64 K) ∧ w'.cell? ⟨w.heap.size + 1, 1, none⟩ = some (.string nm) ∧ w'.cell? ⟨w.heap.size + 1, 2, none⟩ = some (.string tn) ∧ w'.cell? ⟨w.heap.size + 1, 3, none⟩ = some (.slice B bl bc) ∧ w'.cell? ⟨w.heap.size + 1, 4, none⟩ = some (.int .i64 N) ∧ w'.cell? ⟨w.heap.size + 1, 5, none⟩ = some (.int .i64 M) from ⟨h.cell (by simp), h.cell (by simp), h.cell (by simp), h.cell (by simp), h.cell (by simp), h.cell (by simp), h.cell (by simp), h.cell (by simp), h.cell (by simp), h.cell (by simp), h.cell (by simp), h.cell (by simp)⟩)
  have K1 := Lib.hid fun w1 => KR.out nm w1
  have K2 := Lib.hid fun w1 => KR.out tn w1
  rw [h1] at K1
  obtain ⟨b, o, f', Af, cf, hfk, rfl, hc, -⟩ := fl_at hr hkn
  obtain rfl : f' = f := by rw [hf] at hfk; injection hfk with h; exact h.symm
  have HC := Lib.hid fun (w' : World) (hx : Ext w w') => (show w'.cell? ⟨b, o + k * 3 + 1, none⟩ = some (.slice Af f'.data.length cf) from hx.cell (hc 1 _ rfl))
  obtain ⟨nd, hnd⟩ : ∃ nd, nd = f'.data.length := ⟨_, rfl⟩
  rw [← hnd] at HC hfl ⊢
  generalize rightB tn = q2 at *
  have k0 : (K == 0) = false := by simpa using hK0
  have k1 : (K == 1) = false := by simpa using hK1
  clear hc hf hfk ha hl hr hK0 hK1 h1 hnd
  by_cases hK3 : K = 3
  · subst hK3
    obtain rfl : q2 = true := by cases q2; exact absurd ⟨rfl, rfl⟩ h3; rfl
    clear h3
    rw [if_neg (by omega), if_neg (by omega)]
    go_enter Tryz.func58, Tryz.ntmps58
    go_wp2_with (first
          | (go_at_call 49; (with_reducible refine (K1.out _).mono ?_); rintro e w5 ⟨rfl, hx5⟩; have h5 : Ext ((w.alloc (.cells #[.slice (some ⟨b, o, none⟩) n c, .int .i64 r1, .int .i64 r2, .bool false, .int .i64 r4, .int .i64 r5] 28)).alloc (.cells #[.int .i64 3, .string nm, .string tn, .slice B bl bc, .int .i64 N, .int .i64 M, .slice AK kl kc] 44)) w5 := hx5; obtain ⟨y0, y1, y2, y3, y4, y5, y6, y7, y8, y9, y10, y11⟩ := HS.out w5 h5)
          | (go_at_call 49; (with_reducible refine (K2.out _).mono ?_); rintro e w6 ⟨rfl, hx6⟩; have h6 : Ext ((w.alloc (.cells #[.slice (some ⟨b, o, none⟩) n c, .int .i64 r1, .int .i64 r2, .bool false, .int .i64 r4, .int .i64 r5] 28)).alloc (.cells #[.int .i64 3, .string nm, .string tn, .slice B bl bc, .int .i64 N, .int .i64 M, .slice AK kl kc] 44)) w6 := h5.tr hx6; obtain ⟨u0, u1, u2, u3, u4, u5, u6, u7, u8, u9, u10, u11⟩ := HS.out w6 h6)
          | (go_at_call 24; (with_reducible refine (KA.out _ exA).mono ?_); rintro e w7 ⟨rfl, hx7⟩; have h7 : Ext ((w.alloc (.cells #[.slice (some ⟨b, o, none⟩) n c, .int .i64 r1, .int .i64 r2, .bool false, .int .i64 r4, .int .i64 r5] 28)).alloc (.cells #[.int .i64 3, .string nm, .string tn, .slice B bl bc, .int .i64 N, .int .i64 M, .slice AK kl kc] 44)) w7 := exA; obtain ⟨v0, v1, v2, v3, v4, v5, v6, v7, v8, v9, v10, v11⟩ := HS.out w7 h7; have e1 := HC.out w7 ((ExtA (ExtA (Ext.rfl' w))).tr h7)))
    go_quiet (fail)
    go_wp2_with fail
    go_ret
    exact ⟨rfl, exA⟩
  · have k3 : (K == 3) = false := by simpa using hK3
    clear h3 hK3
    by_cases hK5 : K = 5
    · subst hK5
      rw [if_neg (c := (5 : Int) = 6 ∧ _) (by omega)]
      by_cases hb : N < 0 ∨ (nd : Int) < N
      · rw [if_pos ⟨rfl, hb⟩]
        go_enter Tryz.func58, Tryz.ntmps58
        go_wp2_with (first
          | (go_at_call 49; (with_reducible refine (K1.out _).mono ?_); rintro e w5 ⟨rfl, hx5⟩; have h5 : Ext ((w.alloc (.cells #[.slice (some ⟨b, o, none⟩) n c, .int .i64 r1, .int .i64 r2, .bool false, .int .i64 r4, .int .i64 r5] 28)).alloc (.cells #[.int .i64 5, .string nm, .string tn, .slice B bl bc, .int .i64 N, .int .i64 M, .slice AK kl kc] 44)) w5 := hx5; obtain ⟨y0, y1, y2, y3, y4, y5, y6, y7, y8, y9, y10, y11⟩ := HS.out w5 h5)
          | (go_at_call 49; (with_reducible refine (K2.out _).mono ?_); rintro e w6 ⟨rfl, hx6⟩; have h6 : Ext ((w.alloc (.cells #[.slice (some ⟨b, o, none⟩) n c, .int .i64 r1, .int .i64 r2, .bool false, .int .i64 r4, .int .i64 r5] 28)).alloc (.cells #[.int .i64 5, .string nm, .string tn, .slice B bl bc, .int .i64 N, .int .i64 M, .slice AK kl kc] 44)) w6 := h5.tr hx6; obtain ⟨u0, u1, u2, u3, u4, u5, u6, u7, u8, u9, u10, u11⟩ := HS.out w6 h6)
          | (go_at_call 24; (with_reducible refine (KA.out _ exA).mono ?_); rintro e w7 ⟨rfl, hx7⟩; have h7 : Ext ((w.alloc (.cells #[.slice (some ⟨b, o, none⟩) n c, .int .i64 r1, .int .i64 r2, .bool false, .int .i64 r4, .int .i64 r5] 28)).alloc (.cells #[.int .i64 5, .string nm, .string tn, .slice B bl bc, .int .i64 N, .int .i64 M, .slice AK kl kc] 44)) w7 := exA; obtain ⟨v0, v1, v2, v3, v4, v5, v6, v7, v8, v9, v10, v11⟩ := HS.out w7 h7; have e1 := HC.out w7 ((ExtA (ExtA (Ext.rfl' w))).tr h7)))
        go_quiet (fail)
        go_wp2_with fail
        all_goals first | (exfalso; omega) | (go_ret; exact ⟨rfl, exA⟩)
      · rw [if_neg (fun h => hb h.2)]
        go_enter Tryz.func58, Tryz.ntmps58
        go_wp2_with (first
          | (go_at_call 49; (with_reducible refine (K1.out _).mono ?_); rintro e w5 ⟨rfl, hx5⟩; have h5 : Ext ((w.alloc (.cells #[.slice (some ⟨b, o, none⟩) n c, .int .i64 r1, .int .i64 r2, .bool false, .int .i64 r4, .int .i64 r5] 28)).alloc (.cells #[.int .i64 5, .string nm, .string tn, .slice B bl bc, .int .i64 N, .int .i64 M, .slice AK kl kc] 44)) w5 := hx5; obtain ⟨y0, y1, y2, y3, y4, y5, y6, y7, y8, y9, y10, y11⟩ := HS.out w5 h5)
          | (go_at_call 49; (with_reducible refine (K2.out _).mono ?_); rintro e w6 ⟨rfl, hx6⟩; have h6 : Ext ((w.alloc (.cells #[.slice (some ⟨b, o, none⟩) n c, .int .i64 r1, .int .i64 r2, .bool false, .int .i64 r4, .int .i64 r5] 28)).alloc (.cells #[.int .i64 5, .string nm, .string tn, .slice B bl bc, .int .i64 N, .int .i64 M, .slice AK kl kc] 44)) w6 := h5.tr hx6; obtain ⟨u0, u1, u2, u3, u4, u5, u6, u7, u8, u9, u10, u11⟩ := HS.out w6 h6)
          | (go_at_call 24; (with_reducible refine (KA.out _ exA).mono ?_); rintro e w7 ⟨rfl, hx7⟩; have h7 : Ext ((w.alloc (.cells #[.slice (some ⟨b, o, none⟩) n c, .int .i64 r1, .int .i64 r2, .bool false, .int .i64 r4, .int .i64 r5] 28)).alloc (.cells #[.int .i64 5, .string nm, .string tn, .slice B bl bc, .int .i64 N, .int .i64 M, .slice AK kl kc] 44)) w7 := exA; obtain ⟨v0, v1, v2, v3, v4, v5, v6, v7, v8, v9, v10, v11⟩ := HS.out w7 h7; have e1 := HC.out w7 ((ExtA (ExtA (Ext.rfl' w))).tr h7)))
        go_quiet (fail)
        go_wp2_with fail
        all_goals first | (exfalso; omega) | (go_ret; exact ⟨rfl, exA⟩)
    · have k5 : (K == 5) = false := by simpa using hK5
      rw [if_neg (fun h => hK5 h.1)]
      clear hK5
      by_cases hK6 : K = 6
      · subst hK6
        by_cases hb : N < 0 ∨ M < 0 ∨ (nd : Int) < N ∨ (nd : Int) - N < M
        · rw [if_pos ⟨rfl, hb⟩]
          go_enter Tryz.func58, Tryz.ntmps58
          go_wp2_with (first
            | (go_at_call 49; (with_reducible refine (K1.out _).mono ?_); rintro e w5 ⟨rfl, hx5⟩; have h5 : Ext ((w.alloc (.cells #[.slice (some ⟨b, o, none⟩) n c, .int .i64 r1, .int .i64 r2, .bool false, .int .i64 r4, .int .i64 r5] 28)).alloc (.cells #[.int .i64 6, .string nm, .string tn, .slice B bl bc, .int .i64 N, .int .i64 M, .slice AK kl kc] 44)) w5 := hx5; obtain ⟨y0, y1, y2, y3, y4, y5, y6, y7, y8, y9, y10, y11⟩ := HS.out w5 h5)
            | (go_at_call 49; (with_reducible refine (K2.out _).mono ?_); rintro e w6 ⟨rfl, hx6⟩; have h6 : Ext ((w.alloc (.cells #[.slice (some ⟨b, o, none⟩) n c, .int .i64 r1, .int .i64 r2, .bool false, .int .i64 r4, .int .i64 r5] 28)).alloc (.cells #[.int .i64 6, .string nm, .string tn, .slice B bl bc, .int .i64 N, .int .i64 M, .slice AK kl kc] 44)) w6 := h5.tr hx6; obtain ⟨u0, u1, u2, u3, u4, u5, u6, u7, u8, u9, u10, u11⟩ := HS.out w6 h6)
            | (go_at_call 24; (with_reducible refine (KA.out _ exA).mono ?_); rintro e w7 ⟨rfl, hx7⟩; have h7 : Ext ((w.alloc (.cells #[.slice (some ⟨b, o, none⟩) n c, .int .i64 r1, .int .i64 r2, .bool false, .int .i64 r4, .int .i64 r5] 28)).alloc (.cells #[.int .i64 6, .string nm, .string tn, .slice B bl bc, .int .i64 N, .int .i64 M, .slice AK kl kc] 44)) w7 := exA; obtain ⟨v0, v1, v2, v3, v4, v5, v6, v7, v8, v9, v10, v11⟩ := HS.out w7 h7; have e1 := HC.out w7 ((ExtA (ExtA (Ext.rfl' w))).tr h7)))
          go_quiet (fail)
          go_wp2_with fail
          all_goals first | (exfalso; omega) | (go_ret; exact ⟨rfl, exA⟩)
        · rw [if_neg (fun h => hb h.2)]
          go_enter Tryz.func58, Tryz.ntmps58
          go_wp2_with (first
            | (go_at_call 49; (with_reducible refine (K1.out _).mono ?_); rintro e w5 ⟨rfl, hx5⟩; have h5 : Ext ((w.alloc (.cells #[.slice (some ⟨b, o, none⟩) n c, .int .i64 r1, .int .i64 r2, .bool false, .int .i64 r4, .int .i64 r5] 28)).alloc (.cells #[.int .i64 6, .string nm, .string tn, .slice B bl bc, .int .i64 N, .int .i64 M, .slice AK kl kc] 44)) w5 := hx5; obtain ⟨y0, y1, y2, y3, y4, y5, y6, y7, y8, y9, y10, y11⟩ := HS.out w5 h5)
            | (go_at_call 49; (with_reducible refine (K2.out _).mono ?_); rintro e w6 ⟨rfl, hx6⟩; have h6 : Ext ((w.alloc (.cells #[.slice (some ⟨b, o, none⟩) n c, .int .i64 r1, .int .i64 r2, .bool false, .int .i64 r4, .int .i64 r5] 28)).alloc (.cells #[.int .i64 6, .string nm, .string tn, .slice B bl bc, .int .i64 N, .int .i64 M, .slice AK kl kc] 44)) w6 := h5.tr hx6; obtain ⟨u0, u1, u2, u3, u4, u5, u6, u7, u8, u9, u10, u11⟩ := HS.out w6 h6)
            | (go_at_call 24; (with_reducible refine (KA.out _ exA).mono ?_); rintro e w7 ⟨rfl, hx7⟩; have h7 : Ext ((w.alloc (.cells #[.slice (some ⟨b, o, none⟩) n c, .int .i64 r1, .int .i64 r2, .bool false, .int .i64 r4, .int .i64 r5] 28)).alloc (.cells #[.int .i64 6, .string nm, .string tn, .slice B bl bc, .int .i64 N, .int .i64 M, .slice AK kl kc] 44)) w7 := exA; obtain ⟨v0, v1, v2, v3, v4, v5, v6, v7, v8, v9, v10, v11⟩ := HS.out w7 h7; have e1 := HC.out w7 ((ExtA (ExtA (Ext.rfl' w))).tr h7)))
          go_quiet (fail)
          go_wp2_with fail
          all_goals first | (exfalso; omega) | (go_ret; exact ⟨rfl, exA⟩)
      · have k6 : (K == 6) = false := by simpa using hK6
        rw [if_neg (fun h => hK6 h.1)]
        clear hK6
        go_enter Tryz.func58, Tryz.ntmps58
        go_wp2_with (first
          | (go_at_call 49; (with_reducible refine (K1.out _).mono ?_); rintro e w5 ⟨rfl, hx5⟩; have h5 : Ext ((w.alloc (.cells #[.slice (some ⟨b, o, none⟩) n c, .int .i64 r1, .int .i64 r2, .bool false, .int .i64 r4, .int .i64 r5] 28)).alloc (.cells #[.int .i64 K, .string nm, .string tn, .slice B bl bc, .int .i64 N, .int .i64 M, .slice AK kl kc] 44)) w5 := hx5; obtain ⟨y0, y1, y2, y3, y4, y5, y6, y7, y8, y9, y10, y11⟩ := HS.out w5 h5)
          | (go_at_call 49; (with_reducible refine (K2.out _).mono ?_); rintro e w6 ⟨rfl, hx6⟩; have h6 : Ext ((w.alloc (.cells #[.slice (some ⟨b, o, none⟩) n c, .int .i64 r1, .int .i64 r2, .bool false, .int .i64 r4, .int .i64 r5] 28)).alloc (.cells #[.int .i64 K, .string nm, .string tn, .slice B bl bc, .int .i64 N, .int .i64 M, .slice AK kl kc] 44)) w6 := h5.tr hx6; obtain ⟨u0, u1, u2, u3, u4, u5, u6, u7, u8, u9, u10, u11⟩ := HS.out w6 h6)
          | (go_at_call 24; (with_reducible refine (KA.out _ exA).mono ?_); rintro e w7 ⟨rfl, hx7⟩; have h7 : Ext ((w.alloc (.cells #[.slice (some ⟨b, o, none⟩) n c, .int .i64 r1, .int .i64 r2, .bool false, .int .i64 r4, .int .i64 r5] 28)).alloc (.cells #[.int .i64 K, .string nm, .string tn, .slice B bl bc, .int .i64 N, .int .i64 M, .slice AK kl kc] 44)) w7 := exA; obtain ⟨v0, v1, v2, v3, v4, v5, v6, v7, v8, v9, v10, v11⟩ := HS.out w7 h7; have e1 := HC.out w7 ((ExtA (ExtA (Ext.rfl' w))).tr h7)))
        go_quiet (fail)
        go_wp2_with fail
        go_ret
        exact ⟨rfl, exA⟩
set_option maxRecDepth 100000 in
set_option maxHeartbeats 8000000 in
theorem rbar_one (A : Option Addr) (n c : Nat) (fs : List FV) (r1 r2 r4 r5 : Int) (nm tn : ByteArray) (B : Option Addr) (bl bc : Nat) (N M : Int) (AK : Option Addr) (kl kc : Nat) (w : World) (hr : FlRd w A n fs) (hn : n ≤ 2000000)
    (h1 : rightB nm = true) (k : Nat) (f : FV) (ha : atI fs nm = (k : Nat)) (hf : fs[k]? = some f) (hsm : sumV fs ≤ 67108864) (hr1 : 0 ≤ r1 ∧ r1 ≤ 67108864) (hbl : bl ≤ 140737488355328) :
    Calls Tryz.prog 58 #[.agg #[.slice A n c, .int .i64 r1, .int .i64 r2, .bool false, .int .i64 r4, .int .i64 r5], .agg #[.int .i64 1, .string nm, .string tn, .slice B bl bc, .int .i64 N, .int .i64 M, .slice AK kl kc]] w
      fun e w' => e = .returned (.int .i64 (barE fs r1 false 1 nm tn bl N M)) ∧ Ext w w' := by
  have hl := hr.len
  have hkn : k < n := by rw [← hl]; exact (List.getElem?_eq_some_iff.1 hf).1
  have KR := Lib.hid fun s w1 => rright_any s w1
  have KA := Lib.hid fun (w1 : World) (h : Ext w w1) => rat_any A n c fs r1 r2 r4 r5 false nm w1 (hr.ext h) (by simp only [maxLen]; omega)
  have KU := Lib.hid fun (w1 : World) (h : Ext w w1) => rused_any A n c fs r1 r2 r4 r5 false w1 (hr.ext h) (by simp only [maxLen]; omega) (by omega)
  rw [ha] at KA
  have hE : barE fs r1 false 1 nm tn bl N M = if r1 - (sumV fs : Nat) < (bl : Nat) then 54 else 0 := by
    unfold barE
    rw [if_neg (by simp), if_neg (by rw [h1]; rintro (h | h); exact Bool.noConfusion h; exact absurd h.1 (by omega)), if_neg (by omega), if_neg (by rw [ha]; omega)]
    by_cases hb : r1 - (sumV fs : Nat) < (bl : Nat)
    · rw [if_pos ⟨rfl, hb⟩, if_pos hb]
    · rw [if_neg (fun h => hb h.2), if_neg hb, if_neg (by omega), if_neg (by omega)]
  rw [hE]
  clear hE
  have HS := Lib.hid fun (w' : World) (h : Ext ((w.alloc (.cells #[.slice A n c, .int .i64 r1, .int .i64 r2, .bool false, .int .i64 r4, .int .i64 r5] 28)).alloc (.cells #[.int .i64 1, .string nm, .string tn, .slice B bl bc, .int .i64 N, .int .i64 M, .slice AK kl kc] 44)) w') => (show w'.cell? ⟨w.heap.size, 0, none⟩ = some (.slice A n c) ∧ w'.cell? ⟨w.heap.size, 1, none⟩ = some (.int .i64 r1) ∧ w'.cell? ⟨w.heap.size, 2, none⟩ = some (.int .i64 r2) ∧ w'.cell? ⟨w.heap.size, 3, none⟩ = some (.bool false) ∧ w'.cell? ⟨w.heap.size, 4, none⟩ = some (.int .i64 r4) ∧ w'.cell? ⟨w.heap.size, 5, none⟩ = some (.int .i64 r5) ∧ w'.cell? ⟨w.heap.size + 1, 0, none⟩ = some (.int .i64 1) ∧ w'.cell? ⟨w.heap.size + 1, 1, none⟩ = some (.string nm) ∧ w'.cell? ⟨w.heap.size + 1, 2, none⟩ = some (.string tn) ∧ w'.cell? ⟨w.heap.size + 1, 3, none⟩ = some (.slice B bl bc) ∧ w'.cell? ⟨w.heap.size + 1, 4, none⟩ = some (.int .i64 N) ∧ w'.cell? ⟨w.heap.size + 1, 5, none⟩ = some (.int .i64 M) from ⟨h.cell (by simp), h.cell (by simp), h.cell (by simp), h.cell (by simp), h.cell (by simp), h.cell (by simp), h.cell (by simp), h.cell (by simp), h.cell (by simp), h.cell (by simp), h.cell (by simp), h.cell (by simp)⟩)
  have K1 := Lib.hid fun w1 => KR.out nm w1
  have K2 := Lib.hid fun w1 => KR.out tn w1
  rw [h1] at K1
  obtain ⟨b, o, f', Af, cf, hfk, rfl, hc, -⟩ := fl_at hr hkn
  have HC := Lib.hid fun (w' : World) (hx : Ext w w') => (show w'.cell? ⟨b, o + k * 3 + 1, none⟩ = some (.slice Af f'.data.length cf) from hx.cell (hc 1 _ rfl))
  obtain ⟨nd, hnd⟩ : ∃ nd, nd = f'.data.length := ⟨_, rfl⟩
  rw [← hnd] at HC
  obtain ⟨us, hus⟩ : ∃ us, us = sumV fs := ⟨_, rfl⟩
  rw [← hus] at KU hsm ⊢
  clear hc hf hfk ha hl hr h1 hnd hus
  have hw1 : IntKind.i64.wrap (r1 - (us : Nat)) = r1 - (us : Nat) := by rw [IntKind.wrap_i64]; omega
  by_cases hb : r1 - (us : Nat) < (bl : Nat)
  · rw [if_pos hb]
    go_enter Tryz.func58, Tryz.ntmps58
    go_wp2_with (first
      | (go_at_call 49; (with_reducible refine (K1.out _).mono ?_); rintro e w5 ⟨rfl, hx5⟩; have h5 : Ext ((w.alloc (.cells #[.slice (some ⟨b, o, none⟩) n c, .int .i64 r1, .int .i64 r2, .bool false, .int .i64 r4, .int .i64 r5] 28)).alloc (.cells #[.int .i64 1, .string nm, .string tn, .slice B bl bc, .int .i64 N, .int .i64 M, .slice AK kl kc] 44)) w5 := hx5; obtain ⟨y0, y1, y2, y3, y4, y5, y6, y7, y8, y9, y10, y11⟩ := HS.out w5 h5)
      | (go_at_call 49; (with_reducible refine (K2.out _).mono ?_); rintro e w6 ⟨rfl, hx6⟩; have h6 : Ext ((w.alloc (.cells #[.slice (some ⟨b, o, none⟩) n c, .int .i64 r1, .int .i64 r2, .bool false, .int .i64 r4, .int .i64 r5] 28)).alloc (.cells #[.int .i64 1, .string nm, .string tn, .slice B bl bc, .int .i64 N, .int .i64 M, .slice AK kl kc] 44)) w6 := h5.tr hx6; obtain ⟨u0, u1, u2, u3, u4, u5, u6, u7, u8, u9, u10, u11⟩ := HS.out w6 h6)
      | (go_at_call 24; (with_reducible refine (KA.out _ exA).mono ?_); rintro e w7 ⟨rfl, hx7⟩; have h7 : Ext ((w.alloc (.cells #[.slice (some ⟨b, o, none⟩) n c, .int .i64 r1, .int .i64 r2, .bool false, .int .i64 r4, .int .i64 r5] 28)).alloc (.cells #[.int .i64 1, .string nm, .string tn, .slice B bl bc, .int .i64 N, .int .i64 M, .slice AK kl kc] 44)) w7 := exA; obtain ⟨v0, v1, v2, v3, v4, v5, v6, v7, v8, v9, v10, v11⟩ := HS.out w7 h7; have e1 := HC.out w7 ((ExtA (ExtA (Ext.rfl' w))).tr h7)))
    go_region_held3 (fun w' : World => w'.cell? ⟨w.heap.size, 0, none⟩ = some (.slice (some ⟨b, o, none⟩) n c) ∧ w'.cell? ⟨w.heap.size, 1, none⟩ = some (.int .i64 r1) ∧ w'.cell? ⟨w.heap.size, 2, none⟩ = some (.int .i64 r2) ∧ w'.cell? ⟨w.heap.size, 3, none⟩ = some (.bool false) ∧ w'.cell? ⟨w.heap.size, 4, none⟩ = some (.int .i64 r4) ∧ w'.cell? ⟨w.heap.size, 5, none⟩ = some (.int .i64 r5) ∧ w'.cell? ⟨w.heap.size + 1, 0, none⟩ = some (.int .i64 1) ∧ w'.cell? ⟨w.heap.size + 1, 1, none⟩ = some (.string nm) ∧ w'.cell? ⟨w.heap.size + 1, 2, none⟩ = some (.string tn) ∧ w'.cell? ⟨w.heap.size + 1, 3, none⟩ = some (.slice B bl bc) ∧ w'.cell? ⟨w.heap.size + 1, 4, none⟩ = some (.int .i64 N) ∧ w'.cell? ⟨w.heap.size + 1, 5, none⟩ = some (.int .i64 M)) (exact HS.out _ exA)
      ((go_at_call 108; (with_reducible refine (KU.out _ exA).mono ?_); rintro e w8 ⟨rfl, hx8⟩))
    go_wp2_with fail
    all_goals first | (exfalso; omega) | (go_ret; exact ⟨rfl, exA⟩)
  · rw [if_neg hb]
    go_enter Tryz.func58, Tryz.ntmps58
    go_wp2_with (first
      | (go_at_call 49; (with_reducible refine (K1.out _).mono ?_); rintro e w5 ⟨rfl, hx5⟩; have h5 : Ext ((w.alloc (.cells #[.slice (some ⟨b, o, none⟩) n c, .int .i64 r1, .int .i64 r2, .bool false, .int .i64 r4, .int .i64 r5] 28)).alloc (.cells #[.int .i64 1, .string nm, .string tn, .slice B bl bc, .int .i64 N, .int .i64 M, .slice AK kl kc] 44)) w5 := hx5; obtain ⟨y0, y1, y2, y3, y4, y5, y6, y7, y8, y9, y10, y11⟩ := HS.out w5 h5)
      | (go_at_call 49; (with_reducible refine (K2.out _).mono ?_); rintro e w6 ⟨rfl, hx6⟩; have h6 : Ext ((w.alloc (.cells #[.slice (some ⟨b, o, none⟩) n c, .int .i64 r1, .int .i64 r2, .bool false, .int .i64 r4, .int .i64 r5] 28)).alloc (.cells #[.int .i64 1, .string nm, .string tn, .slice B bl bc, .int .i64 N, .int .i64 M, .slice AK kl kc] 44)) w6 := h5.tr hx6; obtain ⟨u0, u1, u2, u3, u4, u5, u6, u7, u8, u9, u10, u11⟩ := HS.out w6 h6)
      | (go_at_call 24; (with_reducible refine (KA.out _ exA).mono ?_); rintro e w7 ⟨rfl, hx7⟩; have h7 : Ext ((w.alloc (.cells #[.slice (some ⟨b, o, none⟩) n c, .int .i64 r1, .int .i64 r2, .bool false, .int .i64 r4, .int .i64 r5] 28)).alloc (.cells #[.int .i64 1, .string nm, .string tn, .slice B bl bc, .int .i64 N, .int .i64 M, .slice AK kl kc] 44)) w7 := exA; obtain ⟨v0, v1, v2, v3, v4, v5, v6, v7, v8, v9, v10, v11⟩ := HS.out w7 h7; have e1 := HC.out w7 ((ExtA (ExtA (Ext.rfl' w))).tr h7)))
    go_region_held3 (fun w' : World => w'.cell? ⟨w.heap.size, 0, none⟩ = some (.slice (some ⟨b, o, none⟩) n c) ∧ w'.cell? ⟨w.heap.size, 1, none⟩ = some (.int .i64 r1) ∧ w'.cell? ⟨w.heap.size, 2, none⟩ = some (.int .i64 r2) ∧ w'.cell? ⟨w.heap.size, 3, none⟩ = some (.bool false) ∧ w'.cell? ⟨w.heap.size, 4, none⟩ = some (.int .i64 r4) ∧ w'.cell? ⟨w.heap.size, 5, none⟩ = some (.int .i64 r5) ∧ w'.cell? ⟨w.heap.size + 1, 0, none⟩ = some (.int .i64 1) ∧ w'.cell? ⟨w.heap.size + 1, 1, none⟩ = some (.string nm) ∧ w'.cell? ⟨w.heap.size + 1, 2, none⟩ = some (.string tn) ∧ w'.cell? ⟨w.heap.size + 1, 3, none⟩ = some (.slice B bl bc) ∧ w'.cell? ⟨w.heap.size + 1, 4, none⟩ = some (.int .i64 N) ∧ w'.cell? ⟨w.heap.size + 1, 5, none⟩ = some (.int .i64 M)) (exact HS.out _ exA)
      ((go_at_call 108; (with_reducible refine (KU.out _ exA).mono ?_); rintro e w8 ⟨rfl, hx8⟩))
    go_wp2_with fail
    all_goals first | (exfalso; omega) | (go_ret; exact ⟨rfl, exA⟩)
end Go.Proofs.YtjajbbgebblalaaGreatDoor
