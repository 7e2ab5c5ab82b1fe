/-
  The reference's disk: New, At, Used.
-/
import Derived.Test.YtdoaniimfhpjhaaLsD
namespace Go.Proofs.Ytdoaniimfhpjhaa
open Go.RowKit
set_option linter.unusedVariables false
set_option linter.unusedSimpArgs false
theorem ba_ne {a b : ByteArray} (h : a ≠ b) : (a.toList == b.toList) = false := by
  rw [beq_eq_false_iff_ne]
  exact fun hc => h (toList_inj hc)
def atI (fs : List FV) (nm : ByteArray) : Int := match fs.findIdx? (fun f => decide (f.name = nm)) with | some i => (i : Nat) | none => -1
theorem at_none {fs : List FV} {nm : ByteArray} (h : ∀ f ∈ fs, f.name ≠ nm) : atI fs nm = -1 := by
  unfold atI
  rw [List.findIdx?_eq_none_iff.2 (fun f hf => by simpa using h f hf)]
theorem at_some {fs : List FV} {nm : ByteArray} {k : Nat} {f : FV} (hk : fs[k]? = some f) (hn : f.name = nm) (h : ∀ j g, j < k → fs[j]? = some g → g.name ≠ nm) : atI fs nm = (k : Nat) := by
  unfold atI
  obtain ⟨hl, hv⟩ := List.getElem?_eq_some_iff.1 hk
  rw [List.findIdx?_eq_some_iff_getElem.2 ⟨hl, by rw [hv]; simpa using hn, fun j hj => by simpa using h j _ hj (List.getElem?_eq_getElem (by omega))⟩]
theorem disk_wide : Wide Try.prog 28 6 := ⟨⟨_, Try.underlying28, rfl⟩, by kernel_rfl⟩
set_option maxRecDepth 100000 in
set_option maxHeartbeats 4000000 in
theorem rnew_any (room : Int) (w : World) : Calls Try.prog 7 #[.int .i64 room] w fun e w' => e = .returned (.agg #[.slice none 0 0, .int .i64 (min (max 0 room) 67108864), .int .i64 0, .bool false, .int .i64 0, .int .i64 0]) ∧ Ext w w' := by
  by_cases h0 : room < 0
  · have d0 : decide (room < 0) = true := by simpa using h0
    have e : min (max 0 room) 67108864 = 0 := by omega
    rw [e]
    go_enter Try.func7, Try.ntmps7
    go_wp2_with fail
    refine bodyPost_ret (res_row rfl _ _ w.heap.size 28 _ 6 rfl (BlkN rfl) disk_wide rfl) rfl ?_
    exact ⟨rfl, (by repeat (first | with_reducible exact Below.refl _ _ | with_reducible assumption | with_reducible refine ExtD ?_ | with_reducible refine ExtDN ?_ | with_reducible refine ExtA ?_ | (with_reducible refine ExtR ?_ ?_; (first | omega | (dsimp only; omega) | (simp; done) | (simp; omega))) | (with_reducible refine ExtS ?_ ?_; (first | omega | (dsimp only; omega) | (simp; done) | (simp; omega))) | with_reducible refine Ext.tr ?_ (by with_reducible assumption)))⟩
  · have d0 : decide (room < 0) = false := by simpa using h0
    by_cases h1 : 67108864 < room
    · have d1 : decide (67108864 < room) = true := by simpa using h1
      have e : min (max 0 room) 67108864 = 67108864 := by omega
      rw [e]
      go_enter Try.func7, Try.ntmps7
      go_wp2_with fail
      refine bodyPost_ret (res_row rfl _ _ w.heap.size 28 _ 6 rfl (BlkN rfl) disk_wide rfl) rfl ?_
      exact ⟨rfl, (by repeat (first | with_reducible exact Below.refl _ _ | with_reducible assumption | with_reducible refine ExtD ?_ | with_reducible refine ExtDN ?_ | with_reducible refine ExtA ?_ | (with_reducible refine ExtR ?_ ?_; (first | omega | (dsimp only; omega) | (simp; done) | (simp; omega))) | (with_reducible refine ExtS ?_ ?_; (first | omega | (dsimp only; omega) | (simp; done) | (simp; omega))) | with_reducible refine Ext.tr ?_ (by with_reducible assumption)))⟩
    · have d1 : decide (67108864 < room) = false := by simpa using h1
      have e : min (max 0 room) 67108864 = room := by omega
      rw [e]
      go_enter Try.func7, Try.ntmps7
      go_wp2_with fail
      refine bodyPost_ret (res_row rfl _ _ w.heap.size 28 _ 6 rfl (BlkN rfl) disk_wide rfl) rfl ?_
      exact ⟨rfl, (by repeat (first | with_reducible exact Below.refl _ _ | with_reducible assumption | with_reducible refine ExtD ?_ | with_reducible refine ExtDN ?_ | with_reducible refine ExtA ?_ | (with_reducible refine ExtR ?_ ?_; (first | omega | (dsimp only; omega) | (simp; done) | (simp; omega))) | (with_reducible refine ExtS ?_ ?_; (first | omega | (dsimp only; omega) | (simp; done) | (simp; omega))) | with_reducible refine Ext.tr ?_ (by with_reducible assumption)))⟩
def AtR (W : World) (fs : List FV) (nm : ByteArray) (c9 : Value) (wr : World) : Prop := ∃ k : Nat, c9 = .int .i64 k ∧ k ≤ fs.length ∧ Ext W wr ∧ ∀ j g, j < k → fs[j]? = some g → g.name ≠ nm
set_option maxRecDepth 100000 in
set_option maxHeartbeats 4000000 in
theorem rat_any (A : Option Addr) (n c : Nat) (fs : List FV) (r1 r2 r4 r5 : Int) (r3 : Bool) (nm : ByteArray) (w : World) (hr : FlRd w A n fs) (hn : n ≤ maxLen) :
    Calls Try.prog 29 #[.agg #[.slice A n c, .int .i64 r1, .int .i64 r2, .bool r3, .int .i64 r4, .int .i64 r5], .string nm] w fun e w' => e = .returned (.int .i64 (atI fs nm)) ∧ Ext w w' := by
  have hl := hr.len
  unfold maxLen at hn
  go_enter Try.func29, Try.ntmps29
  go_wp2_with fail
  go_loopw [9] (fun c9 wr => AtR (w.alloc (.cells #[.slice A n c, .int .i64 r1, .int .i64 r2, .bool r3, .int .i64 r4, .int .i64 r5] 28)) fs nm c9 wr) (fun c9 _ => n - (intOf c9).toNat)
  case atStart => exact ⟨0, rfl, by omega, (by repeat (first | with_reducible exact Below.refl _ _ | with_reducible assumption | with_reducible refine ExtD ?_ | with_reducible refine ExtDN ?_ | with_reducible refine ExtA ?_ | (with_reducible refine ExtR ?_ ?_; (first | omega | (dsimp only; omega) | (simp; done) | (simp; omega))) | (with_reducible refine ExtS ?_ ?_; (first | omega | (dsimp only; omega) | (simp; done) | (simp; omega))) | with_reducible refine Ext.tr ?_ (by with_reducible assumption))), fun j g hj => by omega⟩
  case round =>
    obtain ⟨k, rfl, hk, hx, hno⟩ := hrel
    have Hno := Lib.hid hno
    have hxw : Ext w wr := (ExtA (Ext.rfl' w)).tr hx
    have b0 : wr.cell? ⟨w.heap.size, 0, none⟩ = some (.slice A n c) := hx.cell (by simp)
    rw [hl] at hk
    have Hl := Lib.hid hl
    clear hno hl
    by_cases hlt : k < n
    · obtain ⟨b, o, f, Af, cf, hfk, rfl, hc, -⟩ := fl_at (hr.ext hxw) hlt
      have e0 := hc 0 _ rfl
      simp only [Nat.add_zero] at e0
      have Hfk := Lib.hid hfk
      clear hfk hc hr
      by_cases he : f.name = nm
      · have d1 : (f.name.toList == nm.toList) = true := by rw [he]; simp
        have ha := at_some Hfk.out he Hno.out
        clear he
        go_wp2_with fail
        go_ret
        rw [ha]; exact ⟨rfl, hxw⟩
      · have d1 : (f.name.toList == nm.toList) = false := ba_ne he
        have Hne := Lib.hid (fun j g (hj : j < k + 1) (hg : fs[j]? = some g) => (show g.name ≠ nm from by
          by_cases hjk : j < k
          · exact Hno.out j g hjk hg
          · obtain rfl : j = k := by omega
            rw [Hfk.out] at hg
            injection hg with hg
            rw [← hg]; exact he))
        clear he
        go_wp2_with fail
        go_roundw
        case rel => exact ⟨k + 1, by go_num, by rw [Hl.out]; omega, hx, Hne.out⟩
        case measure => simp [intOf]; omega
    · obtain rfl : k = n := by omega
      have ha := at_none (fs := fs) (nm := nm) (fun f hf => by
        obtain ⟨j, hj⟩ := List.getElem?_of_mem hf
        exact Hno.out j f (by have := (List.getElem?_eq_some_iff.1 hj).1; rw [Hl.out] at this; exact this) hj)
      go_wp2_with fail
      go_ret
      rw [ha]
      exact ⟨rfl, hxw⟩
def UseR (W : World) (fs : List FV) (c3 c8 : Value) (wr : World) : Prop := ∃ k : Nat, c8 = .int .i64 k ∧ k ≤ fs.length ∧ c3 = .int .i64 (sumV (fs.take k) : Nat) ∧ Ext W wr
set_option maxRecDepth 100000 in
set_option maxHeartbeats 4000000 in
theorem rused_any (A : Option Addr) (n c : Nat) (fs : List FV) (r1 r2 r4 r5 : Int) (r3 : Bool) (w : World) (hr : FlRd w A n fs) (hn : n ≤ maxLen) (hs : sumV fs ≤ 140737488355328) :
    Calls Try.prog 21 #[.agg #[.slice A n c, .int .i64 r1, .int .i64 r2, .bool r3, .int .i64 r4, .int .i64 r5]] w fun e w' => e = .returned (.int .i64 (sumV fs : Nat)) ∧ Ext w w' := by
  have hl := hr.len
  unfold maxLen at hn
  go_enter Try.func21, Try.ntmps21
  go_wp2_with fail
  go_loopw [3, 8] (fun c3 c8 wr => UseR (w.alloc (.cells #[.slice A n c, .int .i64 r1, .int .i64 r2, .bool r3, .int .i64 r4, .int .i64 r5] 28)) fs c3 c8 wr) (fun _ c8 _ => n - (intOf c8).toNat)
  case atStart => exact ⟨0, rfl, by omega, rfl, (by repeat (first | with_reducible exact Below.refl _ _ | with_reducible assumption | with_reducible refine ExtD ?_ | with_reducible refine ExtDN ?_ | with_reducible refine ExtA ?_ | (with_reducible refine ExtR ?_ ?_; (first | omega | (dsimp only; omega) | (simp; done) | (simp; omega))) | (with_reducible refine ExtS ?_ ?_; (first | omega | (dsimp only; omega) | (simp; done) | (simp; omega))) | with_reducible refine Ext.tr ?_ (by with_reducible assumption)))⟩
  case round =>
    obtain ⟨k, rfl, hk, rfl, hx⟩ := hrel
    have hxw : Ext w wr := (ExtA (Ext.rfl' w)).tr hx
    have b0 : wr.cell? ⟨w.heap.size, 0, none⟩ = some (.slice A n c) := hx.cell (by simp)
    rw [hl] at hk
    have Hl := Lib.hid hl
    clear hl
    by_cases hlt : k < n
    · obtain ⟨b, o, f, Af, cf, hfk, rfl, hc, -⟩ := fl_at (hr.ext hxw) hlt
      have e1 := hc 1 _ rfl
      have hs1 : sumV (fs.take k) + f.data.length = sumV (fs.take (k + 1)) := by rw [List.take_add_one, hfk, Option.toList_some, sumV_snoc]
      have hs2 := sumV_take_le fs (k + 1)
      have hs3 : sumV (fs.take k) + f.data.length ≤ 140737488355328 := by omega
      have Hs1 := Lib.hid hs1
      obtain ⟨sj, hsj⟩ : ∃ sj, sj = sumV (fs.take k) := ⟨_, rfl⟩
      rw [← hsj] at hs3 Hs1 ⊢
      clear hs1 hs2 hfk hc hr hsj
      go_wp2_with fail
      go_roundw
      case rel => exact ⟨k + 1, by go_num, by rw [Hl.out]; omega, by rw [← Hs1.out]; go_num, hx⟩
      case measure => simp [intOf]; omega
    · obtain rfl : k = n := by omega
      have ht : fs.take k = fs := List.take_of_length_le (by rw [Hl.out]; exact Nat.le_refl _)
      rw [ht]
      go_wp2_with fail
      go_ret
      exact ⟨rfl, hxw⟩
end Go.Proofs.Ytdoaniimfhpjhaa
