/-
  The walk of the reference's Valid of manifests. (Written by wip/tools/gen_mrvalid.py.)
-/
import Derived.Test.YtjomgppbialeoaaDoorManW
namespace Go.Proofs.YtjomgppbialeoaaDoor
open Go.RowKit
set_option linter.unusedVariables false
set_option linter.unusedSimpArgs false
def RvR (W0 : World) (m : Mf) (V : Bool) (v4 v92 : Value) (wr : World) : Prop :=
  ∃ (k : Nat) (F N : Int), v92 = .int .i64 (k : Nat) ∧ k < m.segs.length ∧ v4 = .int .i64 F ∧ 0 ≤ N ∧ (k = 0 → N = 0) ∧ (∀ j, k = j + 1 → ∃ h : j < m.segs.length, m.segs[j].num = N) ∧ 1 ≤ F ∧ F ≤ 1099511627777 + 512 * (k : Int) ∧ Ext W0 wr ∧ Hid (V = chainB m.next F N (m.segs.drop k))
set_option maxRecDepth 100000 in
set_option maxHeartbeats 40000000 in
theorem mrvalid_any (m : Mf) (A : Option Addr) (c : Nat) (w : World) (hr : SgRd w A m.segs) (hl : m.segs.length ≤ 4398046510976) :
    Calls Tryd.prog 18 #[.agg (mfcells m A c)] w fun e w' => e = .returned (.bool (manB m)) ∧ Ext w w' := by
  have HR := Lib.hid hr
  have HB := Lib.hid (mf_wid w m A c)
  have hx0 : Ext w (w.alloc (.cells (mfcells m A c) 24)) := ExtA (Ext.rfl' w)
  obtain ⟨n, hn⟩ : ∃ n, n = m.segs.length := ⟨_, rfl⟩
  have HNn := Lib.hid hn
  unfold mfcells at HB hx0 ⊢
  unfold manB
  rw [← hn] at HB hl hx0 ⊢
  obtain ⟨V, hV⟩ : ∃ V, V = chainB m.next (m.floor + 1) 0 m.segs := ⟨_, rfl⟩
  have HV := Lib.hid hV
  rw [← hV]
  obtain ⟨gen, hgen⟩ : ∃ x, x = m.gen := ⟨_, rfl⟩
  obtain ⟨next, hnext⟩ : ∃ x, x = m.next := ⟨_, rfl⟩
  obtain ⟨floor, hfloor⟩ : ∃ x, x = m.floor := ⟨_, rfl⟩
  obtain ⟨snap, hsnap⟩ : ∃ x, x = m.snap := ⟨_, rfl⟩
  obtain ⟨snapSeq, hsnapSeq⟩ : ∃ x, x = m.snapSeq := ⟨_, rfl⟩
  have HNX := Lib.hid hnext
  have HFl := Lib.hid hfloor
  rw [← hgen, ← hnext, ← hfloor, ← hsnap, ← hsnapSeq] at HB hx0 ⊢
  obtain ⟨V2, hV2⟩ : ∃ V2 : Bool, V2 = ((decide (1 ≤ gen) && decide (gen ≤ 1099511627776)) && (decide (2 ≤ next) && decide (next ≤ 1000000)) && (decide (0 ≤ snapSeq) && decide (snapSeq ≤ 1099511627776)) && (decide (0 ≤ floor) && decide (floor ≤ snapSeq)) && (decide (0 ≤ snap) && decide (snap ≤ next - 1)) && (decide (snap = 0) == decide (snapSeq = 0)) && decide (n ≤ 256) && V) := ⟨_, rfl⟩
  rw [← hV2]
  have HV2 := Lib.hid hV2
  clear hn hr hV hgen hnext hfloor hsnap hsnapSeq hV2
  by_cases h0 : gen < 1
  · have u0 : decide (gen < 1) = true := by simpa using h0
    have hres : Hid (V2 = false) := Lib.hid (by rw [HV2.out, show decide (1 ≤ gen) = false by simp; omega]; simp)
    go_enter Tryd.func18, Tryd.ntmps18
    go_wp2_with fail
    go_ret
    exact ⟨by rw [hres.out]; rfl, (by repeat (first | with_reducible exact Below.refl _ _ | with_reducible assumption | with_reducible refine ExtD ?_ | with_reducible refine ExtDN ?_ | with_reducible refine ExtA ?_ | (with_reducible refine ExtR ?_ ?_; (first | omega | (dsimp only; omega) | (simp; done) | (simp; omega))) | (with_reducible refine ExtS ?_ ?_; (first | omega | (dsimp only; omega) | (simp; done) | (simp; omega))) | with_reducible refine Ext.tr ?_ (by with_reducible assumption)))⟩
  have u0 : decide (gen < 1) = false := by simp; omega
  by_cases h1 : 1099511627776 < gen
  · have u1 : decide (1099511627776 < gen) = true := by simpa using h1
    have hres : Hid (V2 = false) := Lib.hid (by rw [HV2.out, show decide (gen ≤ 1099511627776) = false by simp; omega]; simp)
    go_enter Tryd.func18, Tryd.ntmps18
    go_wp2_with fail
    go_ret
    exact ⟨by rw [hres.out]; rfl, (by repeat (first | with_reducible exact Below.refl _ _ | with_reducible assumption | with_reducible refine ExtD ?_ | with_reducible refine ExtDN ?_ | with_reducible refine ExtA ?_ | (with_reducible refine ExtR ?_ ?_; (first | omega | (dsimp only; omega) | (simp; done) | (simp; omega))) | (with_reducible refine ExtS ?_ ?_; (first | omega | (dsimp only; omega) | (simp; done) | (simp; omega))) | with_reducible refine Ext.tr ?_ (by with_reducible assumption)))⟩
  have u1 : decide (1099511627776 < gen) = false := by simp; omega
  by_cases h2 : next < 2
  · have u2 : decide (next < 2) = true := by simpa using h2
    have hres : Hid (V2 = false) := Lib.hid (by rw [HV2.out, show decide (2 ≤ next) = false by simp; omega]; simp)
    go_enter Tryd.func18, Tryd.ntmps18
    go_wp2_with fail
    go_ret
    exact ⟨by rw [hres.out]; rfl, (by repeat (first | with_reducible exact Below.refl _ _ | with_reducible assumption | with_reducible refine ExtD ?_ | with_reducible refine ExtDN ?_ | with_reducible refine ExtA ?_ | (with_reducible refine ExtR ?_ ?_; (first | omega | (dsimp only; omega) | (simp; done) | (simp; omega))) | (with_reducible refine ExtS ?_ ?_; (first | omega | (dsimp only; omega) | (simp; done) | (simp; omega))) | with_reducible refine Ext.tr ?_ (by with_reducible assumption)))⟩
  have u2 : decide (next < 2) = false := by simp; omega
  by_cases h3 : 1000000 < next
  · have u3 : decide (1000000 < next) = true := by simpa using h3
    have hres : Hid (V2 = false) := Lib.hid (by rw [HV2.out, show decide (next ≤ 1000000) = false by simp; omega]; simp)
    go_enter Tryd.func18, Tryd.ntmps18
    go_wp2_with fail
    go_ret
    exact ⟨by rw [hres.out]; rfl, (by repeat (first | with_reducible exact Below.refl _ _ | with_reducible assumption | with_reducible refine ExtD ?_ | with_reducible refine ExtDN ?_ | with_reducible refine ExtA ?_ | (with_reducible refine ExtR ?_ ?_; (first | omega | (dsimp only; omega) | (simp; done) | (simp; omega))) | (with_reducible refine ExtS ?_ ?_; (first | omega | (dsimp only; omega) | (simp; done) | (simp; omega))) | with_reducible refine Ext.tr ?_ (by with_reducible assumption)))⟩
  have u3 : decide (1000000 < next) = false := by simp; omega
  by_cases h4 : snapSeq < 0
  · have u4 : decide (snapSeq < 0) = true := by simpa using h4
    have hres : Hid (V2 = false) := Lib.hid (by rw [HV2.out, show decide (0 ≤ snapSeq) = false by simp; omega]; simp)
    go_enter Tryd.func18, Tryd.ntmps18
    go_wp2_with fail
    go_ret
    exact ⟨by rw [hres.out]; rfl, (by repeat (first | with_reducible exact Below.refl _ _ | with_reducible assumption | with_reducible refine ExtD ?_ | with_reducible refine ExtDN ?_ | with_reducible refine ExtA ?_ | (with_reducible refine ExtR ?_ ?_; (first | omega | (dsimp only; omega) | (simp; done) | (simp; omega))) | (with_reducible refine ExtS ?_ ?_; (first | omega | (dsimp only; omega) | (simp; done) | (simp; omega))) | with_reducible refine Ext.tr ?_ (by with_reducible assumption)))⟩
  have u4 : decide (snapSeq < 0) = false := by simp; omega
  by_cases h5 : 1099511627776 < snapSeq
  · have u5 : decide (1099511627776 < snapSeq) = true := by simpa using h5
    have hres : Hid (V2 = false) := Lib.hid (by rw [HV2.out, show decide (snapSeq ≤ 1099511627776) = false by simp; omega]; simp)
    go_enter Tryd.func18, Tryd.ntmps18
    go_wp2_with fail
    go_ret
    exact ⟨by rw [hres.out]; rfl, (by repeat (first | with_reducible exact Below.refl _ _ | with_reducible assumption | with_reducible refine ExtD ?_ | with_reducible refine ExtDN ?_ | with_reducible refine ExtA ?_ | (with_reducible refine ExtR ?_ ?_; (first | omega | (dsimp only; omega) | (simp; done) | (simp; omega))) | (with_reducible refine ExtS ?_ ?_; (first | omega | (dsimp only; omega) | (simp; done) | (simp; omega))) | with_reducible refine Ext.tr ?_ (by with_reducible assumption)))⟩
  have u5 : decide (1099511627776 < snapSeq) = false := by simp; omega
  by_cases h6 : floor < 0
  · have u6 : decide (floor < 0) = true := by simpa using h6
    have hres : Hid (V2 = false) := Lib.hid (by rw [HV2.out, show decide (0 ≤ floor) = false by simp; omega]; simp)
    go_enter Tryd.func18, Tryd.ntmps18
    go_wp2_with fail
    go_ret
    exact ⟨by rw [hres.out]; rfl, (by repeat (first | with_reducible exact Below.refl _ _ | with_reducible assumption | with_reducible refine ExtD ?_ | with_reducible refine ExtDN ?_ | with_reducible refine ExtA ?_ | (with_reducible refine ExtR ?_ ?_; (first | omega | (dsimp only; omega) | (simp; done) | (simp; omega))) | (with_reducible refine ExtS ?_ ?_; (first | omega | (dsimp only; omega) | (simp; done) | (simp; omega))) | with_reducible refine Ext.tr ?_ (by with_reducible assumption)))⟩
  have u6 : decide (floor < 0) = false := by simp; omega
  by_cases h7 : snapSeq < floor
  · have u7 : decide (snapSeq < floor) = true := by simpa using h7
    have hres : Hid (V2 = false) := Lib.hid (by rw [HV2.out, show decide (floor ≤ snapSeq) = false by simp; omega]; simp)
    go_enter Tryd.func18, Tryd.ntmps18
    go_wp2_with fail
    go_ret
    exact ⟨by rw [hres.out]; rfl, (by repeat (first | with_reducible exact Below.refl _ _ | with_reducible assumption | with_reducible refine ExtD ?_ | with_reducible refine ExtDN ?_ | with_reducible refine ExtA ?_ | (with_reducible refine ExtR ?_ ?_; (first | omega | (dsimp only; omega) | (simp; done) | (simp; omega))) | (with_reducible refine ExtS ?_ ?_; (first | omega | (dsimp only; omega) | (simp; done) | (simp; omega))) | with_reducible refine Ext.tr ?_ (by with_reducible assumption)))⟩
  have u7 : decide (snapSeq < floor) = false := by simp; omega
  by_cases h8 : snap < 0
  · have u8 : decide (snap < 0) = true := by simpa using h8
    have hres : Hid (V2 = false) := Lib.hid (by rw [HV2.out, show decide (0 ≤ snap) = false by simp; omega]; simp)
    go_enter Tryd.func18, Tryd.ntmps18
    go_wp2_with fail
    go_ret
    exact ⟨by rw [hres.out]; rfl, (by repeat (first | with_reducible exact Below.refl _ _ | with_reducible assumption | with_reducible refine ExtD ?_ | with_reducible refine ExtDN ?_ | with_reducible refine ExtA ?_ | (with_reducible refine ExtR ?_ ?_; (first | omega | (dsimp only; omega) | (simp; done) | (simp; omega))) | (with_reducible refine ExtS ?_ ?_; (first | omega | (dsimp only; omega) | (simp; done) | (simp; omega))) | with_reducible refine Ext.tr ?_ (by with_reducible assumption)))⟩
  have u8 : decide (snap < 0) = false := by simp; omega
  by_cases h9 : next ≤ snap
  · have u9 : decide (next ≤ snap) = true := by simpa using h9
    have hres : Hid (V2 = false) := Lib.hid (by rw [HV2.out, show decide (snap ≤ next - 1) = false by simp; omega]; simp)
    go_enter Tryd.func18, Tryd.ntmps18
    go_wp2_with fail
    go_ret
    exact ⟨by rw [hres.out]; rfl, (by repeat (first | with_reducible exact Below.refl _ _ | with_reducible assumption | with_reducible refine ExtD ?_ | with_reducible refine ExtDN ?_ | with_reducible refine ExtA ?_ | (with_reducible refine ExtR ?_ ?_; (first | omega | (dsimp only; omega) | (simp; done) | (simp; omega))) | (with_reducible refine ExtS ?_ ?_; (first | omega | (dsimp only; omega) | (simp; done) | (simp; omega))) | with_reducible refine Ext.tr ?_ (by with_reducible assumption)))⟩
  have u9 : decide (next ≤ snap) = false := by simp; omega
  have hx5 : 0 < n → Hid (n ≤ 256) → Hid (V2 = (decide (snap = 0) == decide (snapSeq = 0) && V)) := fun _ h6 => Lib.hid (by
    have h6 := h6.out
    rw [HV2.out, show decide (1 ≤ gen) = true by simp; omega, show decide (gen ≤ 1099511627776) = true by simp; omega, show decide (2 ≤ next) = true by simp; omega, show decide (next ≤ 1000000) = true by simp; omega, show decide (0 ≤ snapSeq) = true by simp; omega, show decide (snapSeq ≤ 1099511627776) = true by simp; omega, show decide (0 ≤ floor) = true by simp; omega, show decide (floor ≤ snapSeq) = true by simp; omega, show decide (0 ≤ snap) = true by simp; omega, show decide (snap ≤ next - 1) = true by simp; omega, show decide (n ≤ 256) = true by simp; omega]
    cases (decide (snap = 0) == decide (snapSeq = 0)) <;> rfl)
  have Hx5 := Lib.hid hx5
  clear hx5
  by_cases hne : (snap = 0 ∧ snapSeq ≠ 0) ∨ (snap ≠ 0 ∧ snapSeq = 0)
  · have hres : Hid (V2 = false) := Lib.hid (by
      rw [HV2.out]
      rcases hne with ⟨a, b⟩ | ⟨a, b⟩ <;> simp [a, b])
    rcases hne with ⟨rfl, b⟩ | ⟨a, rfl⟩
    · have y2 : (snapSeq == 0) = false := by simpa using b
      have y3 : (snapSeq != 0) = true := by simpa using b
      clear HV2 Hx5
      go_enter Tryd.func18, Tryd.ntmps18
      go_wp2_with fail
      go_ret
      exact ⟨by rw [hres.out]; rfl, (by repeat (first | with_reducible exact Below.refl _ _ | with_reducible assumption | with_reducible refine ExtD ?_ | with_reducible refine ExtDN ?_ | with_reducible refine ExtA ?_ | (with_reducible refine ExtR ?_ ?_; (first | omega | (dsimp only; omega) | (simp; done) | (simp; omega))) | (with_reducible refine ExtS ?_ ?_; (first | omega | (dsimp only; omega) | (simp; done) | (simp; omega))) | with_reducible refine Ext.tr ?_ (by with_reducible assumption)))⟩
    · have y1 : (snap == 0) = false := by simpa using a
      have y3 : (snap != 0) = true := by simpa using a
      clear HV2 Hx5
      go_enter Tryd.func18, Tryd.ntmps18
      go_wp2_with fail
      go_ret
      exact ⟨by rw [hres.out]; rfl, (by repeat (first | with_reducible exact Below.refl _ _ | with_reducible assumption | with_reducible refine ExtD ?_ | with_reducible refine ExtDN ?_ | with_reducible refine ExtA ?_ | (with_reducible refine ExtR ?_ ?_; (first | omega | (dsimp only; omega) | (simp; done) | (simp; omega))) | (with_reducible refine ExtS ?_ ?_; (first | omega | (dsimp only; omega) | (simp; done) | (simp; omega))) | with_reducible refine Ext.tr ?_ (by with_reducible assumption)))⟩
  have Hne : Hid ((snap = 0 ∧ snapSeq = 0) ∨ (snap ≠ 0 ∧ snapSeq ≠ 0)) := Lib.hid (by omega)
  clear hne
  have hp0 : 1 ≤ floor + 1 ∧ floor + 1 ≤ 1099511627777 := by omega
  go_enter Tryd.func18, Tryd.ntmps18
  go_upto_region 3 with fail
  go_cut [76] (fun v76 wc => v76 = .bool false ∧ wc = w.alloc (.cells #[.int .i64 gen, .int .i64 next, .int .i64 floor, .int .i64 snap, .int .i64 snapSeq, .slice A n c] 24))
  case first =>
    clear HB HV2 Hx5
    rcases Hne.out with ⟨rfl, rfl⟩ | ⟨a, b⟩
    · go_wp2_with fail
      go_meet
      case rel => exact ⟨rfl, rfl⟩
    · have y1 : (snap == 0) = false := by simpa using a
      have y2 : (snapSeq == 0) = false := by simpa using b
      have y3 : (snap != 0) = true := by simpa using a
      have y4 : (snapSeq != 0) = true := by simpa using b
      go_wp2_with fail
      go_meet
      case rel => exact ⟨rfl, rfl⟩
  case rest =>
    obtain ⟨rfl, rfl⟩ := hcut
    by_cases h13 : n < 1
    · have u13 : decide ((n : Int) < 1) = true := by simp; omega
      have hres : Hid (V2 = false) := Lib.hid (by
        have hs : m.segs = [] := List.eq_nil_of_length_eq_zero (by have := HNn.out; omega)
        rw [HV2.out, HV.out, hs]
        simp [chainB])
      go_wp2_with fail
      go_ret
      exact ⟨by rw [hres.out]; rfl, (by repeat (first | with_reducible exact Below.refl _ _ | with_reducible assumption | with_reducible refine ExtD ?_ | with_reducible refine ExtDN ?_ | with_reducible refine ExtA ?_ | (with_reducible refine ExtR ?_ ?_; (first | omega | (dsimp only; omega) | (simp; done) | (simp; omega))) | (with_reducible refine ExtS ?_ ?_; (first | omega | (dsimp only; omega) | (simp; done) | (simp; omega))) | with_reducible refine Ext.tr ?_ (by with_reducible assumption)))⟩
    have u13 : decide ((n : Int) < 1) = false := by simp; omega
    by_cases h14 : 256 < n
    · have u14 : decide ((256 : Int) < (n : Int)) = true := by simp; omega
      have hres : Hid (V2 = false) := Lib.hid (by rw [HV2.out, show decide (n ≤ 256) = false by simp; omega]; simp)
      go_wp2_with fail
      go_ret
      exact ⟨by rw [hres.out]; rfl, (by repeat (first | with_reducible exact Below.refl _ _ | with_reducible assumption | with_reducible refine ExtD ?_ | with_reducible refine ExtDN ?_ | with_reducible refine ExtA ?_ | (with_reducible refine ExtR ?_ ?_; (first | omega | (dsimp only; omega) | (simp; done) | (simp; omega))) | (with_reducible refine ExtS ?_ ?_; (first | omega | (dsimp only; omega) | (simp; done) | (simp; omega))) | with_reducible refine Ext.tr ?_ (by with_reducible assumption)))⟩
    have u14 : decide ((256 : Int) < (n : Int)) = false := by simp; omega
    have hres0 : Hid (V2 = V) := Lib.hid (by
      rw [(Hx5.out (by omega) (Lib.hid (by omega))).out]
      rcases Hne.out with ⟨a, b⟩ | ⟨a, b⟩ <;> simp [a, b])
    clear HV2 Hx5
    have hn6 : n ≤ 256 := by omega
    have hn1 : 1 ≤ n := by omega
    go_wp2_with fail
    generalize w.alloc (.cells #[.int .i64 gen, .int .i64 next, .int .i64 floor, .int .i64 snap, .int .i64 snapSeq, .slice A n c] 24) = W0 at *
    go_loopw [4, 5, 6, 92] (fun v4 _ _ v92 wr => RvR W0 m V2 v4 v92 wr) (fun _ _ _ v92 _ => n - (intOf v92).toNat)
    case atStart => exact ⟨0, floor + 1, 0, rfl, by have := HNn.out; omega, rfl, by omega, fun _ => rfl, fun j h => by omega, by omega, by omega, Ext.rfl' _, Lib.hid (by rw [hres0.out, HV.out, HFl.out]; rfl)⟩
    case round =>
      obtain ⟨k, F, N, rfl, hk, rfl, hN0, hNz, hNp, hF0, hF1, hx, HC⟩ := hrel
      rw [← HNn.out] at hk
      have hxw := hx0.tr hx
      have bB := HB.out wr hx
      have f1 : wr.cell? ⟨w.heap.size, 1, none⟩ = some (.int .i64 next) := bB.cell 1
      have f5 : wr.cell? ⟨w.heap.size, 5, none⟩ = some (.slice A n c) := bB.cell 5
      have hb0 : w.heap.size < wr.heap.size := bB.lt
      obtain ⟨b, o, rfl, hc⟩ := sg_at HR.out (show k < m.segs.length by rw [← HNn.out]; exact hk)
      have Hc := Lib.hid (range_ext hc hxw)
      have hdr : m.segs.drop k = m.segs[k]'(by rw [← HNn.out]; exact hk) :: m.segs.drop (k + 1) := List.drop_eq_getElem_cons _
      have HC2 := HC.out
      rw [hdr] at HC2
      have HD : Hid ((m.segs.drop (k + 1)).isEmpty = decide (k + 1 = n)) := Lib.hid (by rw [Bool.eq_iff_iff]; simp; have := HNn.out; omega)
      have hgk : Hid (m.segs[k]'(by rw [← HNn.out]; exact hk) = m.segs[k]'(by rw [← HNn.out]; exact hk)) := Lib.hid rfl
      obtain ⟨g, hg⟩ : ∃ g, g = m.segs[k]'(by rw [← HNn.out]; exact hk) := ⟨_, rfl⟩
      rw [← hg] at HC2 Hc
      have Hg := Lib.hid hg
      have HNp := Lib.hid hNp
      clear hc hdr HC hg hgk hNp
      obtain ⟨gn, gf, gc, go⟩ := g
      unfold sgcells at Hc
      dsimp only at Hc
      have hal := alloc_sg
      have e0 : wr.cell? ⟨b, o + k * 4, none⟩ = some (.int .i64 gn) := Hc.out 0 _ rfl
      have e1 : wr.cell? ⟨b, o + k * 4 + 1, none⟩ = some (.int .i64 gf) := Hc.out 1 _ rfl
      have e2 : wr.cell? ⟨b, o + k * 4 + 2, none⟩ = some (.int .i64 gc) := Hc.out 2 _ rfl
      have e3 : wr.cell? ⟨b, o + k * 4 + 3, none⟩ = some (.int .i64 go) := Hc.out 3 _ rfl
      rw [chain_cons, HD.out, ← HNX.out] at HC2
      have HC := Lib.hid HC2
      clear HC2 HD bB
      have t93 : decide ((k : Int) < (n : Int)) = true := by simp; omega
      by_cases c0 : gn < 1
      · have v0 : decide (gn < 1) = true := by simpa using c0
        have hres : Hid (V2 = false) := Lib.hid (by rw [HC.out, show decide (N < gn) = false by simp; omega]; simp)
        go_wp2_with fail
        go_quiet (fail)
        go_wp2_with fail
        go_ret
        exact ⟨by rw [hres.out]; rfl, (by repeat (first | with_reducible exact Below.refl _ _ | with_reducible assumption | with_reducible refine ExtD ?_ | with_reducible refine ExtDN ?_ | with_reducible refine ExtA ?_ | (with_reducible refine ExtR ?_ ?_; (first | omega | (dsimp only; omega) | (simp; done) | (simp; omega))) | (with_reducible refine ExtS ?_ ?_; (first | omega | (dsimp only; omega) | (simp; done) | (simp; omega))) | with_reducible refine Ext.tr ?_ (by with_reducible assumption)))⟩
      have v0 : decide (gn < 1) = false := by simp; omega
      by_cases c1 : next ≤ gn
      · have v1 : decide (next ≤ gn) = true := by simpa using c1
        have hres : Hid (V2 = false) := Lib.hid (by rw [HC.out, show decide (gn < next) = false by simp; omega]; simp)
        go_wp2_with fail
        go_quiet (fail)
        go_wp2_with fail
        go_ret
        exact ⟨by rw [hres.out]; rfl, (by repeat (first | with_reducible exact Below.refl _ _ | with_reducible assumption | with_reducible refine ExtD ?_ | with_reducible refine ExtDN ?_ | with_reducible refine ExtA ?_ | (with_reducible refine ExtR ?_ ?_; (first | omega | (dsimp only; omega) | (simp; done) | (simp; omega))) | (with_reducible refine ExtS ?_ ?_; (first | omega | (dsimp only; omega) | (simp; done) | (simp; omega))) | with_reducible refine Ext.tr ?_ (by with_reducible assumption)))⟩
      have v1 : decide (next ≤ gn) = false := by simp; omega
      by_cases hk0 : k = 0
      · have hN : N ≤ 0 := by have := hNz hk0; omega
        have hk1 : k < 1 := by omega
        have hk2 : k = 0 → False ∨ True := fun _ => .inr trivial
        have v2 : decide (0 < k) = false := by simp; omega
        have v3 : decide ((0 : Int) < (k : Int)) = false := by simp; omega
        clear hk0 hk2 hNz
        by_cases c3 : gf = F
        case neg =>
          have v4 : (gf == F) = false := by simpa using c3
          have v4b : (gf != F) = true := by simpa using c3
          have hres : Hid (V2 = false) := Lib.hid (by rw [HC.out, show decide (gf = F) = false by simpa using c3]; simp)
          go_wp2_with fail
          go_quiet (fail)
          go_wp2_with fail
          go_ret
          exact ⟨by rw [hres.out]; rfl, (by repeat (first | with_reducible exact Below.refl _ _ | with_reducible assumption | with_reducible refine ExtD ?_ | with_reducible refine ExtDN ?_ | with_reducible refine ExtA ?_ | (with_reducible refine ExtR ?_ ?_; (first | omega | (dsimp only; omega) | (simp; done) | (simp; omega))) | (with_reducible refine ExtS ?_ ?_; (first | omega | (dsimp only; omega) | (simp; done) | (simp; omega))) | with_reducible refine Ext.tr ?_ (by with_reducible assumption)))⟩
        subst c3
        have HC3 := HC.out
        rw [decide_eq_true rfl, show decide (N < gn) = true by simp; omega, show decide (gn < next) = true by simp; omega, Bool.true_and, Bool.true_and, Bool.true_and] at HC3
        have v4 : (gf == gf) = true := by simp
        by_cases hl : k + 1 = n
        · rw [decide_eq_true hl, if_pos rfl] at HC3
          have HC4 := Lib.hid HC3
          have v5 : ((k : Int) == (n : Int) - 1) = true := by simp; omega
          clear HC HC3
          by_cases h5 : gc = 0
          · subst h5
            by_cases h6 : go = 0
            · subst h6
              have hres : Hid (V2 = decide (gf ≤ 1099511627777)) := Lib.hid (by rw [HC4.out]; simp)
              go_wp2_with fail
              go_quiet (fail)
              go_wp2_with fail
              go_ret
              exact ⟨by rw [hres.out]; rfl, (by repeat (first | with_reducible exact Below.refl _ _ | with_reducible assumption | with_reducible refine ExtD ?_ | with_reducible refine ExtDN ?_ | with_reducible refine ExtA ?_ | (with_reducible refine ExtR ?_ ?_; (first | omega | (dsimp only; omega) | (simp; done) | (simp; omega))) | (with_reducible refine ExtS ?_ ?_; (first | omega | (dsimp only; omega) | (simp; done) | (simp; omega))) | with_reducible refine Ext.tr ?_ (by with_reducible assumption)))⟩
            · have u6 : (go == 0) = false := by simpa using h6
              have hres : Hid (V2 = false) := Lib.hid (by rw [HC4.out]; simp [h6])
              go_wp2_with fail
              go_quiet (fail)
              go_wp2_with fail
              go_ret
              exact ⟨by rw [hres.out]; rfl, (by repeat (first | with_reducible exact Below.refl _ _ | with_reducible assumption | with_reducible refine ExtD ?_ | with_reducible refine ExtDN ?_ | with_reducible refine ExtA ?_ | (with_reducible refine ExtR ?_ ?_; (first | omega | (dsimp only; omega) | (simp; done) | (simp; omega))) | (with_reducible refine ExtS ?_ ?_; (first | omega | (dsimp only; omega) | (simp; done) | (simp; omega))) | with_reducible refine Ext.tr ?_ (by with_reducible assumption)))⟩
          · have u5 : (gc == 0) = false := by simpa using h5
            have hres : Hid (V2 = false) := Lib.hid (by rw [HC4.out]; simp [h5])
            go_wp2_with fail
            go_quiet (fail)
            go_wp2_with fail
            go_ret
            exact ⟨by rw [hres.out]; rfl, (by repeat (first | with_reducible exact Below.refl _ _ | with_reducible assumption | with_reducible refine ExtD ?_ | with_reducible refine ExtDN ?_ | with_reducible refine ExtA ?_ | (with_reducible refine ExtR ?_ ?_; (first | omega | (dsimp only; omega) | (simp; done) | (simp; omega))) | (with_reducible refine ExtS ?_ ?_; (first | omega | (dsimp only; omega) | (simp; done) | (simp; omega))) | with_reducible refine Ext.tr ?_ (by with_reducible assumption)))⟩
        · rw [decide_eq_false hl, if_neg (by decide)] at HC3
          have HC4 := Lib.hid HC3
          have v5 : ((k : Int) == (n : Int) - 1) = false := by simp; omega
          clear HC HC3
          by_cases h5 : gc < 1
          · have wh5 : decide (gc < 1) = true := by simpa using h5
            have hres : Hid (V2 = false) := Lib.hid (by rw [HC4.out]; rw [show decide (1 ≤ gc) = false by simp; omega]; simp)
            go_wp2_with fail
            go_quiet (fail)
            go_wp2_with fail
            go_ret
            exact ⟨by rw [hres.out]; rfl, (by repeat (first | with_reducible exact Below.refl _ _ | with_reducible assumption | with_reducible refine ExtD ?_ | with_reducible refine ExtDN ?_ | with_reducible refine ExtA ?_ | (with_reducible refine ExtR ?_ ?_; (first | omega | (dsimp only; omega) | (simp; done) | (simp; omega))) | (with_reducible refine ExtS ?_ ?_; (first | omega | (dsimp only; omega) | (simp; done) | (simp; omega))) | with_reducible refine Ext.tr ?_ (by with_reducible assumption)))⟩
          have wh5 : decide (gc < 1) = false := by simp; omega
          by_cases h6 : 512 < gc
          · have wh6 : decide (512 < gc) = true := by simpa using h6
            have hres : Hid (V2 = false) := Lib.hid (by rw [HC4.out]; rw [show decide (gc ≤ 512) = false by simp; omega]; simp)
            go_wp2_with fail
            go_quiet (fail)
            go_wp2_with fail
            go_ret
            exact ⟨by rw [hres.out]; rfl, (by repeat (first | with_reducible exact Below.refl _ _ | with_reducible assumption | with_reducible refine ExtD ?_ | with_reducible refine ExtDN ?_ | with_reducible refine ExtA ?_ | (with_reducible refine ExtR ?_ ?_; (first | omega | (dsimp only; omega) | (simp; done) | (simp; omega))) | (with_reducible refine ExtS ?_ ?_; (first | omega | (dsimp only; omega) | (simp; done) | (simp; omega))) | with_reducible refine Ext.tr ?_ (by with_reducible assumption)))⟩
          have wh6 : decide (512 < gc) = false := by simp; omega
          by_cases h7 : go < 1
          · have wh7 : decide (go < 1) = true := by simpa using h7
            have hres : Hid (V2 = false) := Lib.hid (by rw [HC4.out]; rw [show decide (1 ≤ go) = false by simp; omega]; simp)
            go_wp2_with fail
            go_quiet (fail)
            go_wp2_with fail
            go_ret
            exact ⟨by rw [hres.out]; rfl, (by repeat (first | with_reducible exact Below.refl _ _ | with_reducible assumption | with_reducible refine ExtD ?_ | with_reducible refine ExtDN ?_ | with_reducible refine ExtA ?_ | (with_reducible refine ExtR ?_ ?_; (first | omega | (dsimp only; omega) | (simp; done) | (simp; omega))) | (with_reducible refine ExtS ?_ ?_; (first | omega | (dsimp only; omega) | (simp; done) | (simp; omega))) | with_reducible refine Ext.tr ?_ (by with_reducible assumption)))⟩
          have wh7 : decide (go < 1) = false := by simp; omega
          by_cases h8 : 1099511627776 < go
          · have wh8 : decide (1099511627776 < go) = true := by simpa using h8
            have hres : Hid (V2 = false) := Lib.hid (by rw [HC4.out]; rw [show decide (go ≤ 1099511627776) = false by simp; omega]; simp)
            go_wp2_with fail
            go_quiet (fail)
            go_wp2_with fail
            go_ret
            exact ⟨by rw [hres.out]; rfl, (by repeat (first | with_reducible exact Below.refl _ _ | with_reducible assumption | with_reducible refine ExtD ?_ | with_reducible refine ExtDN ?_ | with_reducible refine ExtA ?_ | (with_reducible refine ExtR ?_ ?_; (first | omega | (dsimp only; omega) | (simp; done) | (simp; omega))) | (with_reducible refine ExtS ?_ ?_; (first | omega | (dsimp only; omega) | (simp; done) | (simp; omega))) | with_reducible refine Ext.tr ?_ (by with_reducible assumption)))⟩
          have wh8 : decide (1099511627776 < go) = false := by simp; omega
          have hres : Hid (V2 = chainB m.next (gf + gc) gn (m.segs.drop (k + 1))) := Lib.hid (by rw [HC4.out, show decide (1 ≤ gc) = true by simp; omega, show decide (gc ≤ 512) = true by simp; omega, show decide (1 ≤ go) = true by simp; omega, show decide (go ≤ 1099511627776) = true by simp; omega, ← HNX.out]; rfl)
          clear HC4
          go_wp2_with fail
          go_quiet (fail)
          go_wp2_with fail
          go_roundw
          case rel => exact ⟨k + 1, gf + gc, gn, by go_num, by have := HNn.out; omega, rfl, by omega, fun h => by omega, fun j h => ⟨by have := HNn.out; omega, by obtain rfl : j = k := (by omega); rw [← Hg.out]⟩, by omega, by omega, (by repeat (first | with_reducible exact Below.refl _ _ | with_reducible assumption | with_reducible refine ExtD ?_ | with_reducible refine ExtDN ?_ | with_reducible refine ExtA ?_ | (with_reducible refine ExtR ?_ ?_; (first | omega | (dsimp only; omega) | (simp; done) | (simp; omega))) | (with_reducible refine ExtS ?_ ?_; (first | omega | (dsimp only; omega) | (simp; done) | (simp; omega))) | with_reducible refine Ext.tr ?_ (by with_reducible assumption))), hres⟩
          case measure => simp [intOf]; omega
      · obtain ⟨j, hj⟩ : ∃ j, k = j + 1 := ⟨k - 1, by omega⟩
        obtain ⟨hjl, hjN⟩ := HNp.out j hj
        have v2 : decide (0 < k) = true := by simp; omega
        have v3 : decide ((0 : Int) < (k : Int)) = true := by simp; omega
        have hkj : (k : Int) - 1 = (j : Int) := by omega
        have hwk : IntKind.i64.wrap (j : Int) = (j : Int) := by rw [IntKind.wrap_i64]; omega
        obtain ⟨_, _, hA1, hcp⟩ := sg_at HR.out hjl
        injection hA1 with hA1
        injection hA1 with hb ho
        subst hb ho
        have ep : wr.cell? ⟨b, o + j * 4, none⟩ = some (.int .i64 N) := by have := (range_ext hcp hxw) 0 _ rfl; rw [hjN] at this; exact this
        have hjn : j < n := by omega
        have epA : ∀ ob, (wr.alloc ob).cell? ⟨b, o + j * 4, none⟩ = some (.int .i64 N) := fun ob => (ExtA (o := ob) (Ext.rfl' wr)).cell ep
        have hbb : b < wr.heap.size := World.block_lt_of_cell? wr _ ep
        clear hcp hjN hj
        by_cases c2 : gn ≤ N
        · have v6 : decide (gn ≤ N) = true := by simpa using c2
          have hres : Hid (V2 = false) := Lib.hid (by rw [HC.out, show decide (N < gn) = false by simp; omega]; simp)
          go_wp2_with fail
          go_quiet (fail)
          go_wp2_with fail
          go_ret
          exact ⟨by rw [hres.out]; rfl, (by repeat (first | with_reducible exact Below.refl _ _ | with_reducible assumption | with_reducible refine ExtD ?_ | with_reducible refine ExtDN ?_ | with_reducible refine ExtA ?_ | (with_reducible refine ExtR ?_ ?_; (first | omega | (dsimp only; omega) | (simp; done) | (simp; omega))) | (with_reducible refine ExtS ?_ ?_; (first | omega | (dsimp only; omega) | (simp; done) | (simp; omega))) | with_reducible refine Ext.tr ?_ (by with_reducible assumption)))⟩
        have v6 : decide (gn ≤ N) = false := by simp; omega
        by_cases c3 : gf = F
        case neg =>
          have v4 : (gf == F) = false := by simpa using c3
          have v4b : (gf != F) = true := by simpa using c3
          have hres : Hid (V2 = false) := Lib.hid (by rw [HC.out, show decide (gf = F) = false by simpa using c3]; simp)
          go_wp2_with fail
          go_quiet (fail)
          go_wp2_with fail
          go_ret
          exact ⟨by rw [hres.out]; rfl, (by repeat (first | with_reducible exact Below.refl _ _ | with_reducible assumption | with_reducible refine ExtD ?_ | with_reducible refine ExtDN ?_ | with_reducible refine ExtA ?_ | (with_reducible refine ExtR ?_ ?_; (first | omega | (dsimp only; omega) | (simp; done) | (simp; omega))) | (with_reducible refine ExtS ?_ ?_; (first | omega | (dsimp only; omega) | (simp; done) | (simp; omega))) | with_reducible refine Ext.tr ?_ (by with_reducible assumption)))⟩
        subst c3
        have HC3 := HC.out
        rw [decide_eq_true rfl, show decide (N < gn) = true by simp; omega, show decide (gn < next) = true by simp; omega, Bool.true_and, Bool.true_and, Bool.true_and] at HC3
        have v4 : (gf == gf) = true := by simp
        by_cases hl : k + 1 = n
        · rw [decide_eq_true hl, if_pos rfl] at HC3
          have HC4 := Lib.hid HC3
          have v5 : ((k : Int) == (n : Int) - 1) = true := by simp; omega
          clear HC HC3
          by_cases h5 : gc = 0
          · subst h5
            by_cases h6 : go = 0
            · subst h6
              have hres : Hid (V2 = decide (gf ≤ 1099511627777)) := Lib.hid (by rw [HC4.out]; simp)
              go_wp2_with fail
              go_quiet (fail)
              go_wp2_with fail
              go_ret
              exact ⟨by rw [hres.out]; rfl, (by repeat (first | with_reducible exact Below.refl _ _ | with_reducible assumption | with_reducible refine ExtD ?_ | with_reducible refine ExtDN ?_ | with_reducible refine ExtA ?_ | (with_reducible refine ExtR ?_ ?_; (first | omega | (dsimp only; omega) | (simp; done) | (simp; omega))) | (with_reducible refine ExtS ?_ ?_; (first | omega | (dsimp only; omega) | (simp; done) | (simp; omega))) | with_reducible refine Ext.tr ?_ (by with_reducible assumption)))⟩
            · have u6 : (go == 0) = false := by simpa using h6
              have hres : Hid (V2 = false) := Lib.hid (by rw [HC4.out]; simp [h6])
              go_wp2_with fail
              go_quiet (fail)
              go_wp2_with fail
              go_ret
              exact ⟨by rw [hres.out]; rfl, (by repeat (first | with_reducible exact Below.refl _ _ | with_reducible assumption | with_reducible refine ExtD ?_ | with_reducible refine ExtDN ?_ | with_reducible refine ExtA ?_ | (with_reducible refine ExtR ?_ ?_; (first | omega | (dsimp only; omega) | (simp; done) | (simp; omega))) | (with_reducible refine ExtS ?_ ?_; (first | omega | (dsimp only; omega) | (simp; done) | (simp; omega))) | with_reducible refine Ext.tr ?_ (by with_reducible assumption)))⟩
          · have u5 : (gc == 0) = false := by simpa using h5
            have hres : Hid (V2 = false) := Lib.hid (by rw [HC4.out]; simp [h5])
            go_wp2_with fail
            go_quiet (fail)
            go_wp2_with fail
            go_ret
            exact ⟨by rw [hres.out]; rfl, (by repeat (first | with_reducible exact Below.refl _ _ | with_reducible assumption | with_reducible refine ExtD ?_ | with_reducible refine ExtDN ?_ | with_reducible refine ExtA ?_ | (with_reducible refine ExtR ?_ ?_; (first | omega | (dsimp only; omega) | (simp; done) | (simp; omega))) | (with_reducible refine ExtS ?_ ?_; (first | omega | (dsimp only; omega) | (simp; done) | (simp; omega))) | with_reducible refine Ext.tr ?_ (by with_reducible assumption)))⟩
        · rw [decide_eq_false hl, if_neg (by decide)] at HC3
          have HC4 := Lib.hid HC3
          have v5 : ((k : Int) == (n : Int) - 1) = false := by simp; omega
          clear HC HC3
          by_cases h5 : gc < 1
          · have wh5 : decide (gc < 1) = true := by simpa using h5
            have hres : Hid (V2 = false) := Lib.hid (by rw [HC4.out]; rw [show decide (1 ≤ gc) = false by simp; omega]; simp)
            go_wp2_with fail
            go_quiet (fail)
            go_wp2_with fail
            go_ret
            exact ⟨by rw [hres.out]; rfl, (by repeat (first | with_reducible exact Below.refl _ _ | with_reducible assumption | with_reducible refine ExtD ?_ | with_reducible refine ExtDN ?_ | with_reducible refine ExtA ?_ | (with_reducible refine ExtR ?_ ?_; (first | omega | (dsimp only; omega) | (simp; done) | (simp; omega))) | (with_reducible refine ExtS ?_ ?_; (first | omega | (dsimp only; omega) | (simp; done) | (simp; omega))) | with_reducible refine Ext.tr ?_ (by with_reducible assumption)))⟩
          have wh5 : decide (gc < 1) = false := by simp; omega
          by_cases h6 : 512 < gc
          · have wh6 : decide (512 < gc) = true := by simpa using h6
            have hres : Hid (V2 = false) := Lib.hid (by rw [HC4.out]; rw [show decide (gc ≤ 512) = false by simp; omega]; simp)
            go_wp2_with fail
            go_quiet (fail)
            go_wp2_with fail
            go_ret
            exact ⟨by rw [hres.out]; rfl, (by repeat (first | with_reducible exact Below.refl _ _ | with_reducible assumption | with_reducible refine ExtD ?_ | with_reducible refine ExtDN ?_ | with_reducible refine ExtA ?_ | (with_reducible refine ExtR ?_ ?_; (first | omega | (dsimp only; omega) | (simp; done) | (simp; omega))) | (with_reducible refine ExtS ?_ ?_; (first | omega | (dsimp only; omega) | (simp; done) | (simp; omega))) | with_reducible refine Ext.tr ?_ (by with_reducible assumption)))⟩
          have wh6 : decide (512 < gc) = false := by simp; omega
          by_cases h7 : go < 1
          · have wh7 : decide (go < 1) = true := by simpa using h7
            have hres : Hid (V2 = false) := Lib.hid (by rw [HC4.out]; rw [show decide (1 ≤ go) = false by simp; omega]; simp)
            go_wp2_with fail
            go_quiet (fail)
            go_wp2_with fail
            go_ret
            exact ⟨by rw [hres.out]; rfl, (by repeat (first | with_reducible exact Below.refl _ _ | with_reducible assumption | with_reducible refine ExtD ?_ | with_reducible refine ExtDN ?_ | with_reducible refine ExtA ?_ | (with_reducible refine ExtR ?_ ?_; (first | omega | (dsimp only; omega) | (simp; done) | (simp; omega))) | (with_reducible refine ExtS ?_ ?_; (first | omega | (dsimp only; omega) | (simp; done) | (simp; omega))) | with_reducible refine Ext.tr ?_ (by with_reducible assumption)))⟩
          have wh7 : decide (go < 1) = false := by simp; omega
          by_cases h8 : 1099511627776 < go
          · have wh8 : decide (1099511627776 < go) = true := by simpa using h8
            have hres : Hid (V2 = false) := Lib.hid (by rw [HC4.out]; rw [show decide (go ≤ 1099511627776) = false by simp; omega]; simp)
            go_wp2_with fail
            go_quiet (fail)
            go_wp2_with fail
            go_ret
            exact ⟨by rw [hres.out]; rfl, (by repeat (first | with_reducible exact Below.refl _ _ | with_reducible assumption | with_reducible refine ExtD ?_ | with_reducible refine ExtDN ?_ | with_reducible refine ExtA ?_ | (with_reducible refine ExtR ?_ ?_; (first | omega | (dsimp only; omega) | (simp; done) | (simp; omega))) | (with_reducible refine ExtS ?_ ?_; (first | omega | (dsimp only; omega) | (simp; done) | (simp; omega))) | with_reducible refine Ext.tr ?_ (by with_reducible assumption)))⟩
          have wh8 : decide (1099511627776 < go) = false := by simp; omega
          have hres : Hid (V2 = chainB m.next (gf + gc) gn (m.segs.drop (k + 1))) := Lib.hid (by rw [HC4.out, show decide (1 ≤ gc) = true by simp; omega, show decide (gc ≤ 512) = true by simp; omega, show decide (1 ≤ go) = true by simp; omega, show decide (go ≤ 1099511627776) = true by simp; omega, ← HNX.out]; rfl)
          clear HC4
          go_wp2_with fail
          go_quiet (fail)
          go_wp2_with fail
          go_roundw
          case rel => exact ⟨k + 1, gf + gc, gn, by go_num, by have := HNn.out; omega, rfl, by omega, fun h => by omega, fun j h => ⟨by have := HNn.out; omega, by obtain rfl : j = k := (by omega); rw [← Hg.out]⟩, by omega, by omega, (by repeat (first | with_reducible exact Below.refl _ _ | with_reducible assumption | with_reducible refine ExtD ?_ | with_reducible refine ExtDN ?_ | with_reducible refine ExtA ?_ | (with_reducible refine ExtR ?_ ?_; (first | omega | (dsimp only; omega) | (simp; done) | (simp; omega))) | (with_reducible refine ExtS ?_ ?_; (first | omega | (dsimp only; omega) | (simp; done) | (simp; omega))) | with_reducible refine Ext.tr ?_ (by with_reducible assumption))), hres⟩
          case measure => simp [intOf]; omega
end Go.Proofs.YtjomgppbialeoaaDoor
