/-
  The walks of manifest.chained, Valid.
-/
import Derived.Test.YtjajbbgebblalaaGreatDoorShrT
import Derived.Test.YtjajbbgebblalaaGreatDoorManM
import Derived.Test.YtjajbbgebblalaaGreatDoorCrcW
namespace Go.Proofs.YtjajbbgebblalaaGreatDoor
open Go.RowKit
set_option linter.unusedVariables false
set_option linter.unusedSimpArgs false
set_option maxHeartbeats 1000000 in
theorem mwithin_any (x lo hi : Int) (w : World) : Calls Tryz.prog 103 #[.int .i64 x, .int .i64 lo, .int .i64 hi] w fun e w' => e = .returned (.bool (decide (lo ≤ x) && decide (x ≤ hi))) ∧ Ext w w' := by
  by_cases h : lo ≤ x
  · have t1 : decide (lo ≤ x) = true := by simpa using h
    go_enter Tryz.func103, Tryz.ntmps103
    go_wp2_with fail
    go_ret
    exact ⟨by simp [h], exA⟩
  · have t1 : decide (lo ≤ x) = false := by simpa using h
    go_enter Tryz.func103, Tryz.ntmps103
    go_wp2_with fail
    go_ret
    exact ⟨by simp [h], exA⟩
theorem mf_wid (w : World) (m : Mf) (A : Option Addr) (c : Nat) : ∀ w', Ext (w.alloc (.cells (mfcells m A c) 25)) w' → Blk w' w.heap.size 25 (mfcells m A c) := fun w' h => BlkE (BlkN rfl) h
theorem alloc_sg (w : World) : (Instr.alloc 115 true (.tuple #[])).run Tryz.prog w = .ok (.pointer (some ⟨w.heap.size, 0, none⟩)) (w.alloc (.cells #[.int .i64 0, .int .i64 0, .int .i64 0, .int .i64 0] 115)) := by kernel_rfl
theorem chain_cons (next F N : Int) (n f c o : Int) (r : List Sg) : chainB next F N (⟨n, f, c, o⟩ :: r) = (decide (f = F) && decide (N < n) && decide (n < next) && (if r.isEmpty then decide (c = 0) && decide (o = 0) && decide (F ≤ 1099511627777)
      else (decide (1 ≤ c) && decide (c ≤ 512)) && (decide (1 ≤ o) && decide (o ≤ 1099511627776)) && chainB next (F + c) n r)) := rfl
def ChR (W0 : World) (m : Mf) (V : Bool) (v3 v4 v13 : Value) (wr : World) : Prop :=
  ∃ (k : Nat) (F N : Int), v13 = .int .i64 (k : Nat) ∧ k ≤ m.segs.length ∧ v3 = .int .i64 F ∧ v4 = .int .i64 N ∧ 1 ≤ F ∧ F ≤ 1099511627777 + 512 * (k : Int) ∧ Ext W0 wr ∧ Hid (V = chainB m.next F N (m.segs.drop k))
set_option maxRecDepth 100000 in
set_option maxHeartbeats 4000000 in
theorem chained_any (m : Mf) (A : Option Addr) (c : Nat) (w : World) (hr : SgRd w A m.segs) (hf0 : 0 ≤ m.floor) (hf1 : m.floor ≤ 1099511627776) (hl : m.segs.length ≤ 256) :
    Calls Tryz.prog 104 #[.agg (mfcells m A c)] w fun e w' => e = .returned (.bool (chainB m.next (m.floor + 1) 0 m.segs)) ∧ Ext w w' := by
  have HR := Lib.hid hr
  obtain ⟨n, hn⟩ : ∃ n, n = m.segs.length := ⟨_, rfl⟩
  have HN := Lib.hid hn
  have hn6 : n ≤ 256 := by omega
  have HB := Lib.hid (mf_wid w m A c)
  have hx0 : Ext w (w.alloc (.cells (mfcells m A c) 25)) := ExtA (Ext.rfl' w)
  unfold mfcells at HB hx0 ⊢
  obtain ⟨V, hV⟩ : ∃ V, V = chainB m.next (m.floor + 1) 0 m.segs := ⟨_, rfl⟩
  have HV := Lib.hid hV
  rw [← hV]
  clear hn hl hr hV
  go_enter Tryz.func104, Tryz.ntmps104
  go_wp2_with fail
  generalize w.alloc (.cells #[.int .i64 m.gen, .int .i64 m.next, .int .i64 m.floor, .int .i64 m.snap, .int .i64 m.snapSeq, .slice A m.segs.length c] 25) = W0 at *
  rw [← HN.out] at HB ⊢
  go_loopw [3, 4, 5, 6, 13] (fun v3 v4 _ _ v13 wr => ChR W0 m V v3 v4 v13 wr) (fun _ _ _ _ v13 _ => n - (intOf v13).toNat)
  case atStart => exact ⟨0, m.floor + 1, 0, rfl, by omega, rfl, rfl, by omega, by omega, Ext.rfl' _, HV⟩
  case round =>
    obtain ⟨k, F, N, rfl, hk, rfl, rfl, hF0, hF1, hx, HC⟩ := hrel
    rw [← HN.out] at hk
    have hxw := hx0.tr hx
    have bB := HB.out wr hx
    have f1 : wr.cell? ⟨w.heap.size, 1, none⟩ = some (.int .i64 m.next) := bB.cell 1
    have f5 : wr.cell? ⟨w.heap.size, 5, none⟩ = some (.slice A n c) := bB.cell 5
    have hb0 : w.heap.size < wr.heap.size := bB.lt
    by_cases hlt : k < n
    · obtain ⟨b, o, rfl, hc⟩ := sg_at HR.out (show k < m.segs.length by rw [← HN.out]; exact hlt)
      have Hc := Lib.hid (range_ext hc hxw)
      have hdr : m.segs.drop k = m.segs[k]'(by rw [← HN.out]; exact hlt) :: m.segs.drop (k + 1) := List.drop_eq_getElem_cons _
      have HC2 := HC.out
      rw [hdr] at HC2
      have HD : Hid ((m.segs.drop (k + 1)).isEmpty = decide (k + 1 = n)) := Lib.hid (by rw [Bool.eq_iff_iff]; simp; have := HN.out; omega)
      clear hc hdr HC
      generalize m.segs[k]'(by rw [← HN.out]; exact hlt) = g at *
      obtain ⟨gn, gf, gc, go⟩ := g
      unfold sgcells at Hc
      dsimp only at Hc
      have hal := alloc_sg
      have e0 : wr.cell? ⟨b, o + k * 4, none⟩ = some (.int .i64 gn) := Hc.out 0 _ rfl
      have e1 : wr.cell? ⟨b, o + k * 4 + 1, none⟩ = some (.int .i64 gf) := Hc.out 1 _ rfl
      have e2 : wr.cell? ⟨b, o + k * 4 + 2, none⟩ = some (.int .i64 gc) := Hc.out 2 _ rfl
      have e3 : wr.cell? ⟨b, o + k * 4 + 3, none⟩ = some (.int .i64 go) := Hc.out 3 _ rfl
      rw [chain_cons, HD.out] at HC2
      have HC := Lib.hid HC2
      clear HC2 HD
      generalize hseg : m.segs.drop (k + 1) = R at *
      have HSeg := Lib.hid hseg
      obtain ⟨NX, hNX⟩ : ∃ NX, NX = m.next := ⟨_, rfl⟩
      rw [← hNX] at HC f1
      have HNX := Lib.hid hNX
      clear hseg bB hNX
      by_cases h1 : gf = F
      case neg =>
        have u1 : (gf == F) = false := by simpa using h1
        have hres : Hid (V = false) := Lib.hid (by rw [HC.out]; simp [h1])
        go_wp2_with fail
        go_ret
        exact ⟨by rw [hres.out]; rfl, exA⟩
      subst h1
      have u1 : (gf == gf) = true := by simp
      by_cases h2 : N < gn
      case neg =>
        have u2 : decide (gn ≤ N) = true := by simp; omega
        have hres : Hid (V = false) := Lib.hid (by rw [HC.out]; simp [h2])
        go_wp2_with fail
        go_ret
        exact ⟨by rw [hres.out]; rfl, exA⟩
      have u2 : decide (gn ≤ N) = false := by simp; omega
      by_cases h3 : gn < NX
      case neg =>
        have u3 : decide (NX ≤ gn) = true := by simp; omega
        have hres : Hid (V = false) := Lib.hid (by rw [HC.out]; simp [h3])
        go_wp2_with fail
        go_ret
        exact ⟨by rw [hres.out]; rfl, exA⟩
      have u3 : decide (NX ≤ gn) = false := by simp; omega
      have HC3 := HC.out
      rw [decide_eq_true rfl, decide_eq_true h2, decide_eq_true h3, Bool.true_and, Bool.true_and, Bool.true_and] at HC3
      by_cases hl : k + 1 = n
      · rw [decide_eq_true hl, if_pos rfl] at HC3
        have HC4 := Lib.hid HC3
        have u4 : ((k : Int) == (n : Int) - 1) = true := by simp; omega
        clear HC HC3
        by_cases h5 : gc = 0
        · subst h5
          by_cases h6 : go = 0
          · subst h6
            have hres : Hid (V = decide (gf ≤ 1099511627777)) := Lib.hid (by rw [HC4.out]; simp)
            go_wp2_with fail
            go_ret
            exact ⟨by rw [hres.out]; rfl, exA⟩
          · have u6 : (go == 0) = false := by simpa using h6
            have hres : Hid (V = false) := Lib.hid (by rw [HC4.out]; simp [h6])
            go_wp2_with fail
            go_ret
            exact ⟨by rw [hres.out]; rfl, exA⟩
        · have u5 : (gc == 0) = false := by simpa using h5
          have hres : Hid (V = false) := Lib.hid (by rw [HC4.out]; simp [h5])
          go_wp2_with fail
          go_ret
          exact ⟨by rw [hres.out]; rfl, exA⟩
      · rw [decide_eq_false hl, if_neg (by decide)] at HC3
        have HC4 := Lib.hid HC3
        have u4 : ((k : Int) == (n : Int) - 1) = false := by simp; omega
        have K1 := Lib.hid fun W => mwithin_any gc 1 512 W
        have K2 := Lib.hid fun W => mwithin_any go 1 1099511627776 W
        clear HC HC3
        by_cases h5 : 1 ≤ gc ∧ gc ≤ 512
        case neg =>
          have hz : (decide (1 ≤ gc) && decide (gc ≤ 512)) = false := by simp; omega
          have hres : Hid (V = false) := Lib.hid (by rw [HC4.out, hz]; rfl)
          rw [hz] at K1
          clear hz
          go_wp2_with (go_at_call 103; (with_reducible refine (K1.out _).mono ?_); rintro e w1 ⟨rfl, hx1⟩)
          go_ret
          exact ⟨by rw [hres.out]; rfl, exA⟩
        have hz : (decide (1 ≤ gc) && decide (gc ≤ 512)) = true := by simp; omega
        rw [hz] at K1 HC4
        by_cases h6 : 1 ≤ go ∧ go ≤ 1099511627776
        case neg =>
          have hz2 : (decide (1 ≤ go) && decide (go ≤ 1099511627776)) = false := by simp; omega
          have hres : Hid (V = false) := Lib.hid (by rw [HC4.out, hz2]; rfl)
          rw [hz2] at K2
          clear hz hz2
          go_wp2_with (first
            | (go_at_call 103; (with_reducible refine (K1.out _).mono ?_); rintro e w1 ⟨rfl, hx1⟩; have g3 : w1.cell? ⟨wr.heap.size, 3, none⟩ = some (.int .i64 go) := hx1.cell (by simp [e3]))
            | (go_at_call 103; (with_reducible refine (K2.out _).mono ?_); rintro e w2 ⟨rfl, hx2⟩))
          go_ret
          exact ⟨by rw [hres.out]; rfl, exA⟩
        have hz2 : (decide (1 ≤ go) && decide (go ≤ 1099511627776)) = true := by simp; omega
        rw [hz2] at K2 HC4
        have hres : Hid (V = chainB m.next (gf + gc) gn (m.segs.drop (k + 1))) := Lib.hid (by rw [HC4.out, HSeg.out, ← HNX.out]; rfl)
        clear hz hz2 HC4
        go_wp2_with (first
          | (go_at_call 103; (with_reducible refine (K1.out _).mono ?_); rintro e w1 ⟨rfl, hx1⟩; have g3 : w1.cell? ⟨wr.heap.size, 3, none⟩ = some (.int .i64 go) := hx1.cell (by simp [e3]); have g2 : w1.cell? ⟨wr.heap.size, 2, none⟩ = some (.int .i64 gc) := hx1.cell (by simp [e2]))
          | (go_at_call 103; (with_reducible refine (K2.out _).mono ?_); rintro e w2 ⟨rfl, hx2⟩; have g4 := hx2.cell g2))
        go_roundw
        case rel => exact ⟨k + 1, gf + gc, gn, by go_num, by have := HN.out; omega, rfl, rfl, by omega, by omega, exA, hres⟩
        case measure => simp [intOf]; omega
    · obtain rfl : k = n := by omega
      have hres : Hid (V = false) := Lib.hid (by rw [HC.out, List.drop_of_length_le (by have := HN.out; omega)]; rfl)
      go_wp2_with fail
      go_ret
      exact ⟨by rw [hres.out]; rfl, exA⟩
theorem and_pick (a b : Bool) : (if a = true then b else false) = (a && b) := by cases a <;> rfl
set_option maxRecDepth 100000 in
set_option maxHeartbeats 4000000 in
theorem mvalid_any (m : Mf) (A : Option Addr) (c : Nat) (w : World) (hr : SgRd w A m.segs) (hl : m.segs.length ≤ 4398046510976) (hi : MI64 m.next) :
    Calls Tryz.prog 47 #[.agg (mfcells m A c)] w fun e w' => e = .returned (.bool (manB m)) ∧ Ext w w' := by
  have HR := Lib.hid hr
  have HB := Lib.hid (mf_wid w m A c)
  have hx0 : Ext w (w.alloc (.cells (mfcells m A c) 25)) := ExtA (Ext.rfl' w)
  have KC := Lib.hid fun W (hx : Ext w W) h1 h2 h3 => chained_any m A c W (hr.ext hx) h1 h2 h3
  have KW := Lib.hid fun x lo hi W => mwithin_any x lo hi W
  have hMB : Hid (manB m = manB m) := Lib.hid rfl
  unfold MI64 at hi
  obtain ⟨n, hn⟩ : ∃ n, n = m.segs.length := ⟨_, rfl⟩
  unfold mfcells at HB hx0 KC ⊢
  unfold manB
  rw [← hn] at HB KC hl hx0 ⊢
  generalize chainB m.next (m.floor + 1) 0 m.segs = V at *
  obtain ⟨gen, next, floor, snap, snapSeq, segs⟩ := m
  dsimp only at *
  obtain ⟨V2, hV2⟩ : ∃ V2 : Bool, V2 = ((decide (1 ≤ gen) && decide (gen ≤ 1099511627776)) && (decide (2 ≤ next) && decide (next ≤ 1000000)) && (decide (0 ≤ snapSeq) && decide (snapSeq ≤ 1099511627776)) && (decide (0 ≤ floor) && decide (floor ≤ snapSeq)) && (decide (0 ≤ snap) && decide (snap ≤ next - 1)) && (decide (snap = 0) == decide (snapSeq = 0)) && decide (n ≤ 256) && V) := ⟨_, rfl⟩
  rw [← hV2]
  have HV2 := Lib.hid hV2
  clear hn hr HR hMB hV2
  go_enter Tryz.func47, Tryz.ntmps47
  -- VALID
  have K1 := Lib.hid fun W => mwithin_any gen (1) (1099511627776) W
  have K2 := Lib.hid fun W => mwithin_any next (2) (1000000) W
  have K3 := Lib.hid fun W => mwithin_any snapSeq (0) (1099511627776) W
  have K4 := Lib.hid fun W => mwithin_any floor (0) (snapSeq) W
  have K5 := Lib.hid fun W => mwithin_any snap (0) (next - 1) W
  by_cases h1 : 1 ≤ gen ∧ gen ≤ 1099511627776
  case neg =>
    have z1 : (decide (1 ≤ gen) && decide (gen ≤ 1099511627776)) = false := by simp; omega
    have hres : Hid (V2 = false) := Lib.hid (by rw [HV2.out, z1]; simp)
    rw [z1] at K1
    clear z1
    go_wp2_with (first
      | (go_at_call 103; (with_reducible refine (K1.out _).mono ?_); rintro e w1 ⟨rfl, hx1⟩; have bb := HB.out w1 exA; have q0 : w1.cell? ⟨w.heap.size, 0, none⟩ = some (.int .i64 gen) := bb.cell 0; have q1 : w1.cell? ⟨w.heap.size, 1, none⟩ = some (.int .i64 next) := bb.cell 1; have q2 : w1.cell? ⟨w.heap.size, 2, none⟩ = some (.int .i64 floor) := bb.cell 2; have q3 : w1.cell? ⟨w.heap.size, 3, none⟩ = some (.int .i64 snap) := bb.cell 3; have q4 : w1.cell? ⟨w.heap.size, 4, none⟩ = some (.int .i64 snapSeq) := bb.cell 4; have q5 : w1.cell? ⟨w.heap.size, 5, none⟩ = some (.slice A n c) := bb.cell 5))
    go_ret
    exact ⟨by rw [hres.out]; rfl, exA⟩
  have z1 : (decide (1 ≤ gen) && decide (gen ≤ 1099511627776)) = true := by simp; omega
  have hv1 := HV2.out
  rw [z1] at K1 hv1
  have HV2 := Lib.hid hv1
  clear z1 hv1
  by_cases h2 : 2 ≤ next ∧ next ≤ 1000000
  case neg =>
    have z2 : (decide (2 ≤ next) && decide (next ≤ 1000000)) = false := by simp; omega
    have hres : Hid (V2 = false) := Lib.hid (by rw [HV2.out, z2]; simp)
    rw [z2] at K2
    clear z2
    go_wp2_with (first
      | (go_at_call 103; (with_reducible refine (K1.out _).mono ?_); rintro e w1 ⟨rfl, hx1⟩; have bb := HB.out w1 exA; have q0 : w1.cell? ⟨w.heap.size, 0, none⟩ = some (.int .i64 gen) := bb.cell 0; have q1 : w1.cell? ⟨w.heap.size, 1, none⟩ = some (.int .i64 next) := bb.cell 1; have q2 : w1.cell? ⟨w.heap.size, 2, none⟩ = some (.int .i64 floor) := bb.cell 2; have q3 : w1.cell? ⟨w.heap.size, 3, none⟩ = some (.int .i64 snap) := bb.cell 3; have q4 : w1.cell? ⟨w.heap.size, 4, none⟩ = some (.int .i64 snapSeq) := bb.cell 4; have q5 : w1.cell? ⟨w.heap.size, 5, none⟩ = some (.slice A n c) := bb.cell 5)
      | (go_at_call 103; (with_reducible refine (K2.out _).mono ?_); rintro e w1 ⟨rfl, hx1⟩; have bb := HB.out w1 exA; have q0 : w1.cell? ⟨w.heap.size, 0, none⟩ = some (.int .i64 gen) := bb.cell 0; have q1 : w1.cell? ⟨w.heap.size, 1, none⟩ = some (.int .i64 next) := bb.cell 1; have q2 : w1.cell? ⟨w.heap.size, 2, none⟩ = some (.int .i64 floor) := bb.cell 2; have q3 : w1.cell? ⟨w.heap.size, 3, none⟩ = some (.int .i64 snap) := bb.cell 3; have q4 : w1.cell? ⟨w.heap.size, 4, none⟩ = some (.int .i64 snapSeq) := bb.cell 4; have q5 : w1.cell? ⟨w.heap.size, 5, none⟩ = some (.slice A n c) := bb.cell 5))
    go_ret
    exact ⟨by rw [hres.out]; rfl, exA⟩
  have z2 : (decide (2 ≤ next) && decide (next ≤ 1000000)) = true := by simp; omega
  have hv2 := HV2.out
  rw [z2] at K2 hv2
  have HV2 := Lib.hid hv2
  clear z2 hv2
  by_cases h3 : 0 ≤ snapSeq ∧ snapSeq ≤ 1099511627776
  case neg =>
    have z3 : (decide (0 ≤ snapSeq) && decide (snapSeq ≤ 1099511627776)) = false := by simp; omega
    have hres : Hid (V2 = false) := Lib.hid (by rw [HV2.out, z3]; simp)
    rw [z3] at K3
    clear z3
    go_wp2_with (first
      | (go_at_call 103; (with_reducible refine (K1.out _).mono ?_); rintro e w1 ⟨rfl, hx1⟩; have bb := HB.out w1 exA; have q0 : w1.cell? ⟨w.heap.size, 0, none⟩ = some (.int .i64 gen) := bb.cell 0; have q1 : w1.cell? ⟨w.heap.size, 1, none⟩ = some (.int .i64 next) := bb.cell 1; have q2 : w1.cell? ⟨w.heap.size, 2, none⟩ = some (.int .i64 floor) := bb.cell 2; have q3 : w1.cell? ⟨w.heap.size, 3, none⟩ = some (.int .i64 snap) := bb.cell 3; have q4 : w1.cell? ⟨w.heap.size, 4, none⟩ = some (.int .i64 snapSeq) := bb.cell 4; have q5 : w1.cell? ⟨w.heap.size, 5, none⟩ = some (.slice A n c) := bb.cell 5)
      | (go_at_call 103; (with_reducible refine (K2.out _).mono ?_); rintro e w1 ⟨rfl, hx1⟩; have bb := HB.out w1 exA; have q0 : w1.cell? ⟨w.heap.size, 0, none⟩ = some (.int .i64 gen) := bb.cell 0; have q1 : w1.cell? ⟨w.heap.size, 1, none⟩ = some (.int .i64 next) := bb.cell 1; have q2 : w1.cell? ⟨w.heap.size, 2, none⟩ = some (.int .i64 floor) := bb.cell 2; have q3 : w1.cell? ⟨w.heap.size, 3, none⟩ = some (.int .i64 snap) := bb.cell 3; have q4 : w1.cell? ⟨w.heap.size, 4, none⟩ = some (.int .i64 snapSeq) := bb.cell 4; have q5 : w1.cell? ⟨w.heap.size, 5, none⟩ = some (.slice A n c) := bb.cell 5)
      | (go_at_call 103; (with_reducible refine (K3.out _).mono ?_); rintro e w1 ⟨rfl, hx1⟩; have bb := HB.out w1 exA; have q0 : w1.cell? ⟨w.heap.size, 0, none⟩ = some (.int .i64 gen) := bb.cell 0; have q1 : w1.cell? ⟨w.heap.size, 1, none⟩ = some (.int .i64 next) := bb.cell 1; have q2 : w1.cell? ⟨w.heap.size, 2, none⟩ = some (.int .i64 floor) := bb.cell 2; have q3 : w1.cell? ⟨w.heap.size, 3, none⟩ = some (.int .i64 snap) := bb.cell 3; have q4 : w1.cell? ⟨w.heap.size, 4, none⟩ = some (.int .i64 snapSeq) := bb.cell 4; have q5 : w1.cell? ⟨w.heap.size, 5, none⟩ = some (.slice A n c) := bb.cell 5))
    go_ret
    exact ⟨by rw [hres.out]; rfl, exA⟩
  have z3 : (decide (0 ≤ snapSeq) && decide (snapSeq ≤ 1099511627776)) = true := by simp; omega
  have hv3 := HV2.out
  rw [z3] at K3 hv3
  have HV2 := Lib.hid hv3
  clear z3 hv3
  by_cases h4 : 0 ≤ floor ∧ floor ≤ snapSeq
  case neg =>
    have z4 : (decide (0 ≤ floor) && decide (floor ≤ snapSeq)) = false := by simp; omega
    have hres : Hid (V2 = false) := Lib.hid (by rw [HV2.out, z4]; simp)
    rw [z4] at K4
    clear z4
    go_wp2_with (first
      | (go_at_call 103; (with_reducible refine (K1.out _).mono ?_); rintro e w1 ⟨rfl, hx1⟩; have bb := HB.out w1 exA; have q0 : w1.cell? ⟨w.heap.size, 0, none⟩ = some (.int .i64 gen) := bb.cell 0; have q1 : w1.cell? ⟨w.heap.size, 1, none⟩ = some (.int .i64 next) := bb.cell 1; have q2 : w1.cell? ⟨w.heap.size, 2, none⟩ = some (.int .i64 floor) := bb.cell 2; have q3 : w1.cell? ⟨w.heap.size, 3, none⟩ = some (.int .i64 snap) := bb.cell 3; have q4 : w1.cell? ⟨w.heap.size, 4, none⟩ = some (.int .i64 snapSeq) := bb.cell 4; have q5 : w1.cell? ⟨w.heap.size, 5, none⟩ = some (.slice A n c) := bb.cell 5)
      | (go_at_call 103; (with_reducible refine (K2.out _).mono ?_); rintro e w1 ⟨rfl, hx1⟩; have bb := HB.out w1 exA; have q0 : w1.cell? ⟨w.heap.size, 0, none⟩ = some (.int .i64 gen) := bb.cell 0; have q1 : w1.cell? ⟨w.heap.size, 1, none⟩ = some (.int .i64 next) := bb.cell 1; have q2 : w1.cell? ⟨w.heap.size, 2, none⟩ = some (.int .i64 floor) := bb.cell 2; have q3 : w1.cell? ⟨w.heap.size, 3, none⟩ = some (.int .i64 snap) := bb.cell 3; have q4 : w1.cell? ⟨w.heap.size, 4, none⟩ = some (.int .i64 snapSeq) := bb.cell 4; have q5 : w1.cell? ⟨w.heap.size, 5, none⟩ = some (.slice A n c) := bb.cell 5)
      | (go_at_call 103; (with_reducible refine (K3.out _).mono ?_); rintro e w1 ⟨rfl, hx1⟩; have bb := HB.out w1 exA; have q0 : w1.cell? ⟨w.heap.size, 0, none⟩ = some (.int .i64 gen) := bb.cell 0; have q1 : w1.cell? ⟨w.heap.size, 1, none⟩ = some (.int .i64 next) := bb.cell 1; have q2 : w1.cell? ⟨w.heap.size, 2, none⟩ = some (.int .i64 floor) := bb.cell 2; have q3 : w1.cell? ⟨w.heap.size, 3, none⟩ = some (.int .i64 snap) := bb.cell 3; have q4 : w1.cell? ⟨w.heap.size, 4, none⟩ = some (.int .i64 snapSeq) := bb.cell 4; have q5 : w1.cell? ⟨w.heap.size, 5, none⟩ = some (.slice A n c) := bb.cell 5)
      | (go_at_call 103; (with_reducible refine (K4.out _).mono ?_); rintro e w1 ⟨rfl, hx1⟩; have bb := HB.out w1 exA; have q0 : w1.cell? ⟨w.heap.size, 0, none⟩ = some (.int .i64 gen) := bb.cell 0; have q1 : w1.cell? ⟨w.heap.size, 1, none⟩ = some (.int .i64 next) := bb.cell 1; have q2 : w1.cell? ⟨w.heap.size, 2, none⟩ = some (.int .i64 floor) := bb.cell 2; have q3 : w1.cell? ⟨w.heap.size, 3, none⟩ = some (.int .i64 snap) := bb.cell 3; have q4 : w1.cell? ⟨w.heap.size, 4, none⟩ = some (.int .i64 snapSeq) := bb.cell 4; have q5 : w1.cell? ⟨w.heap.size, 5, none⟩ = some (.slice A n c) := bb.cell 5))
    go_ret
    exact ⟨by rw [hres.out]; rfl, exA⟩
  have z4 : (decide (0 ≤ floor) && decide (floor ≤ snapSeq)) = true := by simp; omega
  have hv4 := HV2.out
  rw [z4] at K4 hv4
  have HV2 := Lib.hid hv4
  clear z4 hv4
  by_cases h5 : 0 ≤ snap ∧ snap ≤ next - 1
  case neg =>
    have z5 : (decide (0 ≤ snap) && decide (snap ≤ next - 1)) = false := by simp; omega
    have hres : Hid (V2 = false) := Lib.hid (by rw [HV2.out, z5]; simp)
    rw [z5] at K5
    clear z5
    go_wp2_with (first
      | (go_at_call 103; (with_reducible refine (K1.out _).mono ?_); rintro e w1 ⟨rfl, hx1⟩; have bb := HB.out w1 exA; have q0 : w1.cell? ⟨w.heap.size, 0, none⟩ = some (.int .i64 gen) := bb.cell 0; have q1 : w1.cell? ⟨w.heap.size, 1, none⟩ = some (.int .i64 next) := bb.cell 1; have q2 : w1.cell? ⟨w.heap.size, 2, none⟩ = some (.int .i64 floor) := bb.cell 2; have q3 : w1.cell? ⟨w.heap.size, 3, none⟩ = some (.int .i64 snap) := bb.cell 3; have q4 : w1.cell? ⟨w.heap.size, 4, none⟩ = some (.int .i64 snapSeq) := bb.cell 4; have q5 : w1.cell? ⟨w.heap.size, 5, none⟩ = some (.slice A n c) := bb.cell 5)
      | (go_at_call 103; (with_reducible refine (K2.out _).mono ?_); rintro e w1 ⟨rfl, hx1⟩; have bb := HB.out w1 exA; have q0 : w1.cell? ⟨w.heap.size, 0, none⟩ = some (.int .i64 gen) := bb.cell 0; have q1 : w1.cell? ⟨w.heap.size, 1, none⟩ = some (.int .i64 next) := bb.cell 1; have q2 : w1.cell? ⟨w.heap.size, 2, none⟩ = some (.int .i64 floor) := bb.cell 2; have q3 : w1.cell? ⟨w.heap.size, 3, none⟩ = some (.int .i64 snap) := bb.cell 3; have q4 : w1.cell? ⟨w.heap.size, 4, none⟩ = some (.int .i64 snapSeq) := bb.cell 4; have q5 : w1.cell? ⟨w.heap.size, 5, none⟩ = some (.slice A n c) := bb.cell 5)
      | (go_at_call 103; (with_reducible refine (K3.out _).mono ?_); rintro e w1 ⟨rfl, hx1⟩; have bb := HB.out w1 exA; have q0 : w1.cell? ⟨w.heap.size, 0, none⟩ = some (.int .i64 gen) := bb.cell 0; have q1 : w1.cell? ⟨w.heap.size, 1, none⟩ = some (.int .i64 next) := bb.cell 1; have q2 : w1.cell? ⟨w.heap.size, 2, none⟩ = some (.int .i64 floor) := bb.cell 2; have q3 : w1.cell? ⟨w.heap.size, 3, none⟩ = some (.int .i64 snap) := bb.cell 3; have q4 : w1.cell? ⟨w.heap.size, 4, none⟩ = some (.int .i64 snapSeq) := bb.cell 4; have q5 : w1.cell? ⟨w.heap.size, 5, none⟩ = some (.slice A n c) := bb.cell 5)
      | (go_at_call 103; (with_reducible refine (K4.out _).mono ?_); rintro e w1 ⟨rfl, hx1⟩; have bb := HB.out w1 exA; have q0 : w1.cell? ⟨w.heap.size, 0, none⟩ = some (.int .i64 gen) := bb.cell 0; have q1 : w1.cell? ⟨w.heap.size, 1, none⟩ = some (.int .i64 next) := bb.cell 1; have q2 : w1.cell? ⟨w.heap.size, 2, none⟩ = some (.int .i64 floor) := bb.cell 2; have q3 : w1.cell? ⟨w.heap.size, 3, none⟩ = some (.int .i64 snap) := bb.cell 3; have q4 : w1.cell? ⟨w.heap.size, 4, none⟩ = some (.int .i64 snapSeq) := bb.cell 4; have q5 : w1.cell? ⟨w.heap.size, 5, none⟩ = some (.slice A n c) := bb.cell 5)
      | (go_at_call 103; (with_reducible refine (K5.out _).mono ?_); rintro e w1 ⟨rfl, hx1⟩; have bb := HB.out w1 exA; have q0 : w1.cell? ⟨w.heap.size, 0, none⟩ = some (.int .i64 gen) := bb.cell 0; have q1 : w1.cell? ⟨w.heap.size, 1, none⟩ = some (.int .i64 next) := bb.cell 1; have q2 : w1.cell? ⟨w.heap.size, 2, none⟩ = some (.int .i64 floor) := bb.cell 2; have q3 : w1.cell? ⟨w.heap.size, 3, none⟩ = some (.int .i64 snap) := bb.cell 3; have q4 : w1.cell? ⟨w.heap.size, 4, none⟩ = some (.int .i64 snapSeq) := bb.cell 4; have q5 : w1.cell? ⟨w.heap.size, 5, none⟩ = some (.slice A n c) := bb.cell 5))
    go_ret
    exact ⟨by rw [hres.out]; rfl, exA⟩
  have z5 : (decide (0 ≤ snap) && decide (snap ≤ next - 1)) = true := by simp; omega
  have hv5 := HV2.out
  rw [z5] at K5 hv5
  have HV2 := Lib.hid hv5
  clear z5 hv5
  have hv6 := HV2.out
  simp only [Bool.true_and] at hv6
  have HV2 := Lib.hid hv6
  clear hv6
  by_cases hs : snap = 0
  · by_cases ht : snapSeq = 0
    · skip
      skip
      have hv7 : V2 = (decide (n ≤ 256) && V) := by rw [HV2.out]; simp [hs, ht]
      have HV3 := Lib.hid hv7
      clear hv7
      subst hs
      subst ht
      by_cases h7 : n ≤ 256
      case neg =>
        have y3 : decide ((n : Int) ≤ 256) = false := by simp; omega
        have hres : Hid (V2 = false) := Lib.hid (by rw [HV3.out]; simp [h7])
        go_wp2_with (first
          | (go_at_call 103; (with_reducible refine (K1.out _).mono ?_); rintro e w1 ⟨rfl, hx1⟩; have bb := HB.out w1 exA; have q0 : w1.cell? ⟨w.heap.size, 0, none⟩ = some (.int .i64 gen) := bb.cell 0; have q1 : w1.cell? ⟨w.heap.size, 1, none⟩ = some (.int .i64 next) := bb.cell 1; have q2 : w1.cell? ⟨w.heap.size, 2, none⟩ = some (.int .i64 floor) := bb.cell 2; have q3 : w1.cell? ⟨w.heap.size, 3, none⟩ = some (.int .i64 0) := bb.cell 3; have q4 : w1.cell? ⟨w.heap.size, 4, none⟩ = some (.int .i64 0) := bb.cell 4; have q5 : w1.cell? ⟨w.heap.size, 5, none⟩ = some (.slice A n c) := bb.cell 5)
          | (go_at_call 103; (with_reducible refine (K2.out _).mono ?_); rintro e w1 ⟨rfl, hx1⟩; have bb := HB.out w1 exA; have q0 : w1.cell? ⟨w.heap.size, 0, none⟩ = some (.int .i64 gen) := bb.cell 0; have q1 : w1.cell? ⟨w.heap.size, 1, none⟩ = some (.int .i64 next) := bb.cell 1; have q2 : w1.cell? ⟨w.heap.size, 2, none⟩ = some (.int .i64 floor) := bb.cell 2; have q3 : w1.cell? ⟨w.heap.size, 3, none⟩ = some (.int .i64 0) := bb.cell 3; have q4 : w1.cell? ⟨w.heap.size, 4, none⟩ = some (.int .i64 0) := bb.cell 4; have q5 : w1.cell? ⟨w.heap.size, 5, none⟩ = some (.slice A n c) := bb.cell 5)
          | (go_at_call 103; (with_reducible refine (K3.out _).mono ?_); rintro e w1 ⟨rfl, hx1⟩; have bb := HB.out w1 exA; have q0 : w1.cell? ⟨w.heap.size, 0, none⟩ = some (.int .i64 gen) := bb.cell 0; have q1 : w1.cell? ⟨w.heap.size, 1, none⟩ = some (.int .i64 next) := bb.cell 1; have q2 : w1.cell? ⟨w.heap.size, 2, none⟩ = some (.int .i64 floor) := bb.cell 2; have q3 : w1.cell? ⟨w.heap.size, 3, none⟩ = some (.int .i64 0) := bb.cell 3; have q4 : w1.cell? ⟨w.heap.size, 4, none⟩ = some (.int .i64 0) := bb.cell 4; have q5 : w1.cell? ⟨w.heap.size, 5, none⟩ = some (.slice A n c) := bb.cell 5)
          | (go_at_call 103; (with_reducible refine (K4.out _).mono ?_); rintro e w1 ⟨rfl, hx1⟩; have bb := HB.out w1 exA; have q0 : w1.cell? ⟨w.heap.size, 0, none⟩ = some (.int .i64 gen) := bb.cell 0; have q1 : w1.cell? ⟨w.heap.size, 1, none⟩ = some (.int .i64 next) := bb.cell 1; have q2 : w1.cell? ⟨w.heap.size, 2, none⟩ = some (.int .i64 floor) := bb.cell 2; have q3 : w1.cell? ⟨w.heap.size, 3, none⟩ = some (.int .i64 0) := bb.cell 3; have q4 : w1.cell? ⟨w.heap.size, 4, none⟩ = some (.int .i64 0) := bb.cell 4; have q5 : w1.cell? ⟨w.heap.size, 5, none⟩ = some (.slice A n c) := bb.cell 5)
          | (go_at_call 103; (with_reducible refine (K5.out _).mono ?_); rintro e w1 ⟨rfl, hx1⟩; have bb := HB.out w1 exA; have q0 : w1.cell? ⟨w.heap.size, 0, none⟩ = some (.int .i64 gen) := bb.cell 0; have q1 : w1.cell? ⟨w.heap.size, 1, none⟩ = some (.int .i64 next) := bb.cell 1; have q2 : w1.cell? ⟨w.heap.size, 2, none⟩ = some (.int .i64 floor) := bb.cell 2; have q3 : w1.cell? ⟨w.heap.size, 3, none⟩ = some (.int .i64 0) := bb.cell 3; have q4 : w1.cell? ⟨w.heap.size, 4, none⟩ = some (.int .i64 0) := bb.cell 4; have q5 : w1.cell? ⟨w.heap.size, 5, none⟩ = some (.slice A n c) := bb.cell 5))
        go_ret
        exact ⟨by rw [hres.out]; rfl, exA⟩
      have y3 : decide ((n : Int) ≤ 256) = true := by simp; omega
      have hres : Hid (V2 = V) := Lib.hid (by rw [HV3.out]; simp [h7])
      have KC2 := Lib.hid fun W hx => KC.out W hx (by omega) (by omega) (by omega)
      go_wp2_with (first
        | (go_at_call 103; (with_reducible refine (K1.out _).mono ?_); rintro e w1 ⟨rfl, hx1⟩; have bb := HB.out w1 exA; have q0 : w1.cell? ⟨w.heap.size, 0, none⟩ = some (.int .i64 gen) := bb.cell 0; have q1 : w1.cell? ⟨w.heap.size, 1, none⟩ = some (.int .i64 next) := bb.cell 1; have q2 : w1.cell? ⟨w.heap.size, 2, none⟩ = some (.int .i64 floor) := bb.cell 2; have q3 : w1.cell? ⟨w.heap.size, 3, none⟩ = some (.int .i64 0) := bb.cell 3; have q4 : w1.cell? ⟨w.heap.size, 4, none⟩ = some (.int .i64 0) := bb.cell 4; have q5 : w1.cell? ⟨w.heap.size, 5, none⟩ = some (.slice A n c) := bb.cell 5)
        | (go_at_call 103; (with_reducible refine (K2.out _).mono ?_); rintro e w1 ⟨rfl, hx1⟩; have bb := HB.out w1 exA; have q0 : w1.cell? ⟨w.heap.size, 0, none⟩ = some (.int .i64 gen) := bb.cell 0; have q1 : w1.cell? ⟨w.heap.size, 1, none⟩ = some (.int .i64 next) := bb.cell 1; have q2 : w1.cell? ⟨w.heap.size, 2, none⟩ = some (.int .i64 floor) := bb.cell 2; have q3 : w1.cell? ⟨w.heap.size, 3, none⟩ = some (.int .i64 0) := bb.cell 3; have q4 : w1.cell? ⟨w.heap.size, 4, none⟩ = some (.int .i64 0) := bb.cell 4; have q5 : w1.cell? ⟨w.heap.size, 5, none⟩ = some (.slice A n c) := bb.cell 5)
        | (go_at_call 103; (with_reducible refine (K3.out _).mono ?_); rintro e w1 ⟨rfl, hx1⟩; have bb := HB.out w1 exA; have q0 : w1.cell? ⟨w.heap.size, 0, none⟩ = some (.int .i64 gen) := bb.cell 0; have q1 : w1.cell? ⟨w.heap.size, 1, none⟩ = some (.int .i64 next) := bb.cell 1; have q2 : w1.cell? ⟨w.heap.size, 2, none⟩ = some (.int .i64 floor) := bb.cell 2; have q3 : w1.cell? ⟨w.heap.size, 3, none⟩ = some (.int .i64 0) := bb.cell 3; have q4 : w1.cell? ⟨w.heap.size, 4, none⟩ = some (.int .i64 0) := bb.cell 4; have q5 : w1.cell? ⟨w.heap.size, 5, none⟩ = some (.slice A n c) := bb.cell 5)
        | (go_at_call 103; (with_reducible refine (K4.out _).mono ?_); rintro e w1 ⟨rfl, hx1⟩; have bb := HB.out w1 exA; have q0 : w1.cell? ⟨w.heap.size, 0, none⟩ = some (.int .i64 gen) := bb.cell 0; have q1 : w1.cell? ⟨w.heap.size, 1, none⟩ = some (.int .i64 next) := bb.cell 1; have q2 : w1.cell? ⟨w.heap.size, 2, none⟩ = some (.int .i64 floor) := bb.cell 2; have q3 : w1.cell? ⟨w.heap.size, 3, none⟩ = some (.int .i64 0) := bb.cell 3; have q4 : w1.cell? ⟨w.heap.size, 4, none⟩ = some (.int .i64 0) := bb.cell 4; have q5 : w1.cell? ⟨w.heap.size, 5, none⟩ = some (.slice A n c) := bb.cell 5)
        | (go_at_call 103; (with_reducible refine (K5.out _).mono ?_); rintro e w1 ⟨rfl, hx1⟩; have bb := HB.out w1 exA; have q0 : w1.cell? ⟨w.heap.size, 0, none⟩ = some (.int .i64 gen) := bb.cell 0; have q1 : w1.cell? ⟨w.heap.size, 1, none⟩ = some (.int .i64 next) := bb.cell 1; have q2 : w1.cell? ⟨w.heap.size, 2, none⟩ = some (.int .i64 floor) := bb.cell 2; have q3 : w1.cell? ⟨w.heap.size, 3, none⟩ = some (.int .i64 0) := bb.cell 3; have q4 : w1.cell? ⟨w.heap.size, 4, none⟩ = some (.int .i64 0) := bb.cell 4; have q5 : w1.cell? ⟨w.heap.size, 5, none⟩ = some (.slice A n c) := bb.cell 5)
        | (go_at_call 104; (with_reducible refine (KC2.out _ exA).mono ?_); rintro e w1 ⟨rfl, hx1⟩))
      go_ret
      exact ⟨by rw [hres.out]; rfl, exA⟩
    · skip
      have y2 : (snapSeq == 0) = false := by simpa using ht
      have hres : Hid (V2 = false) := Lib.hid (by rw [HV2.out]; simp [hs, ht])
      subst hs
      go_wp2_with (first
        | (go_at_call 103; (with_reducible refine (K1.out _).mono ?_); rintro e w1 ⟨rfl, hx1⟩; have bb := HB.out w1 exA; have q0 : w1.cell? ⟨w.heap.size, 0, none⟩ = some (.int .i64 gen) := bb.cell 0; have q1 : w1.cell? ⟨w.heap.size, 1, none⟩ = some (.int .i64 next) := bb.cell 1; have q2 : w1.cell? ⟨w.heap.size, 2, none⟩ = some (.int .i64 floor) := bb.cell 2; have q3 : w1.cell? ⟨w.heap.size, 3, none⟩ = some (.int .i64 0) := bb.cell 3; have q4 : w1.cell? ⟨w.heap.size, 4, none⟩ = some (.int .i64 snapSeq) := bb.cell 4; have q5 : w1.cell? ⟨w.heap.size, 5, none⟩ = some (.slice A n c) := bb.cell 5)
        | (go_at_call 103; (with_reducible refine (K2.out _).mono ?_); rintro e w1 ⟨rfl, hx1⟩; have bb := HB.out w1 exA; have q0 : w1.cell? ⟨w.heap.size, 0, none⟩ = some (.int .i64 gen) := bb.cell 0; have q1 : w1.cell? ⟨w.heap.size, 1, none⟩ = some (.int .i64 next) := bb.cell 1; have q2 : w1.cell? ⟨w.heap.size, 2, none⟩ = some (.int .i64 floor) := bb.cell 2; have q3 : w1.cell? ⟨w.heap.size, 3, none⟩ = some (.int .i64 0) := bb.cell 3; have q4 : w1.cell? ⟨w.heap.size, 4, none⟩ = some (.int .i64 snapSeq) := bb.cell 4; have q5 : w1.cell? ⟨w.heap.size, 5, none⟩ = some (.slice A n c) := bb.cell 5)
        | (go_at_call 103; (with_reducible refine (K3.out _).mono ?_); rintro e w1 ⟨rfl, hx1⟩; have bb := HB.out w1 exA; have q0 : w1.cell? ⟨w.heap.size, 0, none⟩ = some (.int .i64 gen) := bb.cell 0; have q1 : w1.cell? ⟨w.heap.size, 1, none⟩ = some (.int .i64 next) := bb.cell 1; have q2 : w1.cell? ⟨w.heap.size, 2, none⟩ = some (.int .i64 floor) := bb.cell 2; have q3 : w1.cell? ⟨w.heap.size, 3, none⟩ = some (.int .i64 0) := bb.cell 3; have q4 : w1.cell? ⟨w.heap.size, 4, none⟩ = some (.int .i64 snapSeq) := bb.cell 4; have q5 : w1.cell? ⟨w.heap.size, 5, none⟩ = some (.slice A n c) := bb.cell 5)
        | (go_at_call 103; (with_reducible refine (K4.out _).mono ?_); rintro e w1 ⟨rfl, hx1⟩; have bb := HB.out w1 exA; have q0 : w1.cell? ⟨w.heap.size, 0, none⟩ = some (.int .i64 gen) := bb.cell 0; have q1 : w1.cell? ⟨w.heap.size, 1, none⟩ = some (.int .i64 next) := bb.cell 1; have q2 : w1.cell? ⟨w.heap.size, 2, none⟩ = some (.int .i64 floor) := bb.cell 2; have q3 : w1.cell? ⟨w.heap.size, 3, none⟩ = some (.int .i64 0) := bb.cell 3; have q4 : w1.cell? ⟨w.heap.size, 4, none⟩ = some (.int .i64 snapSeq) := bb.cell 4; have q5 : w1.cell? ⟨w.heap.size, 5, none⟩ = some (.slice A n c) := bb.cell 5)
        | (go_at_call 103; (with_reducible refine (K5.out _).mono ?_); rintro e w1 ⟨rfl, hx1⟩; have bb := HB.out w1 exA; have q0 : w1.cell? ⟨w.heap.size, 0, none⟩ = some (.int .i64 gen) := bb.cell 0; have q1 : w1.cell? ⟨w.heap.size, 1, none⟩ = some (.int .i64 next) := bb.cell 1; have q2 : w1.cell? ⟨w.heap.size, 2, none⟩ = some (.int .i64 floor) := bb.cell 2; have q3 : w1.cell? ⟨w.heap.size, 3, none⟩ = some (.int .i64 0) := bb.cell 3; have q4 : w1.cell? ⟨w.heap.size, 4, none⟩ = some (.int .i64 snapSeq) := bb.cell 4; have q5 : w1.cell? ⟨w.heap.size, 5, none⟩ = some (.slice A n c) := bb.cell 5))
      go_ret
      exact ⟨by rw [hres.out]; rfl, exA⟩
  · by_cases ht : snapSeq = 0
    · have y1 : (snap == 0) = false := by simpa using hs
      skip
      have hres : Hid (V2 = false) := Lib.hid (by rw [HV2.out]; simp [hs, ht])
      subst ht
      go_wp2_with (first
        | (go_at_call 103; (with_reducible refine (K1.out _).mono ?_); rintro e w1 ⟨rfl, hx1⟩; have bb := HB.out w1 exA; have q0 : w1.cell? ⟨w.heap.size, 0, none⟩ = some (.int .i64 gen) := bb.cell 0; have q1 : w1.cell? ⟨w.heap.size, 1, none⟩ = some (.int .i64 next) := bb.cell 1; have q2 : w1.cell? ⟨w.heap.size, 2, none⟩ = some (.int .i64 floor) := bb.cell 2; have q3 : w1.cell? ⟨w.heap.size, 3, none⟩ = some (.int .i64 snap) := bb.cell 3; have q4 : w1.cell? ⟨w.heap.size, 4, none⟩ = some (.int .i64 0) := bb.cell 4; have q5 : w1.cell? ⟨w.heap.size, 5, none⟩ = some (.slice A n c) := bb.cell 5)
        | (go_at_call 103; (with_reducible refine (K2.out _).mono ?_); rintro e w1 ⟨rfl, hx1⟩; have bb := HB.out w1 exA; have q0 : w1.cell? ⟨w.heap.size, 0, none⟩ = some (.int .i64 gen) := bb.cell 0; have q1 : w1.cell? ⟨w.heap.size, 1, none⟩ = some (.int .i64 next) := bb.cell 1; have q2 : w1.cell? ⟨w.heap.size, 2, none⟩ = some (.int .i64 floor) := bb.cell 2; have q3 : w1.cell? ⟨w.heap.size, 3, none⟩ = some (.int .i64 snap) := bb.cell 3; have q4 : w1.cell? ⟨w.heap.size, 4, none⟩ = some (.int .i64 0) := bb.cell 4; have q5 : w1.cell? ⟨w.heap.size, 5, none⟩ = some (.slice A n c) := bb.cell 5)
        | (go_at_call 103; (with_reducible refine (K3.out _).mono ?_); rintro e w1 ⟨rfl, hx1⟩; have bb := HB.out w1 exA; have q0 : w1.cell? ⟨w.heap.size, 0, none⟩ = some (.int .i64 gen) := bb.cell 0; have q1 : w1.cell? ⟨w.heap.size, 1, none⟩ = some (.int .i64 next) := bb.cell 1; have q2 : w1.cell? ⟨w.heap.size, 2, none⟩ = some (.int .i64 floor) := bb.cell 2; have q3 : w1.cell? ⟨w.heap.size, 3, none⟩ = some (.int .i64 snap) := bb.cell 3; have q4 : w1.cell? ⟨w.heap.size, 4, none⟩ = some (.int .i64 0) := bb.cell 4; have q5 : w1.cell? ⟨w.heap.size, 5, none⟩ = some (.slice A n c) := bb.cell 5)
        | (go_at_call 103; (with_reducible refine (K4.out _).mono ?_); rintro e w1 ⟨rfl, hx1⟩; have bb := HB.out w1 exA; have q0 : w1.cell? ⟨w.heap.size, 0, none⟩ = some (.int .i64 gen) := bb.cell 0; have q1 : w1.cell? ⟨w.heap.size, 1, none⟩ = some (.int .i64 next) := bb.cell 1; have q2 : w1.cell? ⟨w.heap.size, 2, none⟩ = some (.int .i64 floor) := bb.cell 2; have q3 : w1.cell? ⟨w.heap.size, 3, none⟩ = some (.int .i64 snap) := bb.cell 3; have q4 : w1.cell? ⟨w.heap.size, 4, none⟩ = some (.int .i64 0) := bb.cell 4; have q5 : w1.cell? ⟨w.heap.size, 5, none⟩ = some (.slice A n c) := bb.cell 5)
        | (go_at_call 103; (with_reducible refine (K5.out _).mono ?_); rintro e w1 ⟨rfl, hx1⟩; have bb := HB.out w1 exA; have q0 : w1.cell? ⟨w.heap.size, 0, none⟩ = some (.int .i64 gen) := bb.cell 0; have q1 : w1.cell? ⟨w.heap.size, 1, none⟩ = some (.int .i64 next) := bb.cell 1; have q2 : w1.cell? ⟨w.heap.size, 2, none⟩ = some (.int .i64 floor) := bb.cell 2; have q3 : w1.cell? ⟨w.heap.size, 3, none⟩ = some (.int .i64 snap) := bb.cell 3; have q4 : w1.cell? ⟨w.heap.size, 4, none⟩ = some (.int .i64 0) := bb.cell 4; have q5 : w1.cell? ⟨w.heap.size, 5, none⟩ = some (.slice A n c) := bb.cell 5))
      go_ret
      exact ⟨by rw [hres.out]; rfl, exA⟩
    · have y1 : (snap == 0) = false := by simpa using hs
      have y2 : (snapSeq == 0) = false := by simpa using ht
      have hv7 : V2 = (decide (n ≤ 256) && V) := by rw [HV2.out]; simp [hs, ht]
      have HV3 := Lib.hid hv7
      clear hv7
      by_cases h7 : n ≤ 256
      case neg =>
        have y3 : decide ((n : Int) ≤ 256) = false := by simp; omega
        have hres : Hid (V2 = false) := Lib.hid (by rw [HV3.out]; simp [h7])
        go_wp2_with (first
          | (go_at_call 103; (with_reducible refine (K1.out _).mono ?_); rintro e w1 ⟨rfl, hx1⟩; have bb := HB.out w1 exA; have q0 : w1.cell? ⟨w.heap.size, 0, none⟩ = some (.int .i64 gen) := bb.cell 0; have q1 : w1.cell? ⟨w.heap.size, 1, none⟩ = some (.int .i64 next) := bb.cell 1; have q2 : w1.cell? ⟨w.heap.size, 2, none⟩ = some (.int .i64 floor) := bb.cell 2; have q3 : w1.cell? ⟨w.heap.size, 3, none⟩ = some (.int .i64 snap) := bb.cell 3; have q4 : w1.cell? ⟨w.heap.size, 4, none⟩ = some (.int .i64 snapSeq) := bb.cell 4; have q5 : w1.cell? ⟨w.heap.size, 5, none⟩ = some (.slice A n c) := bb.cell 5)
          | (go_at_call 103; (with_reducible refine (K2.out _).mono ?_); rintro e w1 ⟨rfl, hx1⟩; have bb := HB.out w1 exA; have q0 : w1.cell? ⟨w.heap.size, 0, none⟩ = some (.int .i64 gen) := bb.cell 0; have q1 : w1.cell? ⟨w.heap.size, 1, none⟩ = some (.int .i64 next) := bb.cell 1; have q2 : w1.cell? ⟨w.heap.size, 2, none⟩ = some (.int .i64 floor) := bb.cell 2; have q3 : w1.cell? ⟨w.heap.size, 3, none⟩ = some (.int .i64 snap) := bb.cell 3; have q4 : w1.cell? ⟨w.heap.size, 4, none⟩ = some (.int .i64 snapSeq) := bb.cell 4; have q5 : w1.cell? ⟨w.heap.size, 5, none⟩ = some (.slice A n c) := bb.cell 5)
          | (go_at_call 103; (with_reducible refine (K3.out _).mono ?_); rintro e w1 ⟨rfl, hx1⟩; have bb := HB.out w1 exA; have q0 : w1.cell? ⟨w.heap.size, 0, none⟩ = some (.int .i64 gen) := bb.cell 0; have q1 : w1.cell? ⟨w.heap.size, 1, none⟩ = some (.int .i64 next) := bb.cell 1; have q2 : w1.cell? ⟨w.heap.size, 2, none⟩ = some (.int .i64 floor) := bb.cell 2; have q3 : w1.cell? ⟨w.heap.size, 3, none⟩ = some (.int .i64 snap) := bb.cell 3; have q4 : w1.cell? ⟨w.heap.size, 4, none⟩ = some (.int .i64 snapSeq) := bb.cell 4; have q5 : w1.cell? ⟨w.heap.size, 5, none⟩ = some (.slice A n c) := bb.cell 5)
          | (go_at_call 103; (with_reducible refine (K4.out _).mono ?_); rintro e w1 ⟨rfl, hx1⟩; have bb := HB.out w1 exA; have q0 : w1.cell? ⟨w.heap.size, 0, none⟩ = some (.int .i64 gen) := bb.cell 0; have q1 : w1.cell? ⟨w.heap.size, 1, none⟩ = some (.int .i64 next) := bb.cell 1; have q2 : w1.cell? ⟨w.heap.size, 2, none⟩ = some (.int .i64 floor) := bb.cell 2; have q3 : w1.cell? ⟨w.heap.size, 3, none⟩ = some (.int .i64 snap) := bb.cell 3; have q4 : w1.cell? ⟨w.heap.size, 4, none⟩ = some (.int .i64 snapSeq) := bb.cell 4; have q5 : w1.cell? ⟨w.heap.size, 5, none⟩ = some (.slice A n c) := bb.cell 5)
          | (go_at_call 103; (with_reducible refine (K5.out _).mono ?_); rintro e w1 ⟨rfl, hx1⟩; have bb := HB.out w1 exA; have q0 : w1.cell? ⟨w.heap.size, 0, none⟩ = some (.int .i64 gen) := bb.cell 0; have q1 : w1.cell? ⟨w.heap.size, 1, none⟩ = some (.int .i64 next) := bb.cell 1; have q2 : w1.cell? ⟨w.heap.size, 2, none⟩ = some (.int .i64 floor) := bb.cell 2; have q3 : w1.cell? ⟨w.heap.size, 3, none⟩ = some (.int .i64 snap) := bb.cell 3; have q4 : w1.cell? ⟨w.heap.size, 4, none⟩ = some (.int .i64 snapSeq) := bb.cell 4; have q5 : w1.cell? ⟨w.heap.size, 5, none⟩ = some (.slice A n c) := bb.cell 5))
        go_ret
        exact ⟨by rw [hres.out]; rfl, exA⟩
      have y3 : decide ((n : Int) ≤ 256) = true := by simp; omega
      have hres : Hid (V2 = V) := Lib.hid (by rw [HV3.out]; simp [h7])
      have KC2 := Lib.hid fun W hx => KC.out W hx (by omega) (by omega) (by omega)
      go_wp2_with (first
        | (go_at_call 103; (with_reducible refine (K1.out _).mono ?_); rintro e w1 ⟨rfl, hx1⟩; have bb := HB.out w1 exA; have q0 : w1.cell? ⟨w.heap.size, 0, none⟩ = some (.int .i64 gen) := bb.cell 0; have q1 : w1.cell? ⟨w.heap.size, 1, none⟩ = some (.int .i64 next) := bb.cell 1; have q2 : w1.cell? ⟨w.heap.size, 2, none⟩ = some (.int .i64 floor) := bb.cell 2; have q3 : w1.cell? ⟨w.heap.size, 3, none⟩ = some (.int .i64 snap) := bb.cell 3; have q4 : w1.cell? ⟨w.heap.size, 4, none⟩ = some (.int .i64 snapSeq) := bb.cell 4; have q5 : w1.cell? ⟨w.heap.size, 5, none⟩ = some (.slice A n c) := bb.cell 5)
        | (go_at_call 103; (with_reducible refine (K2.out _).mono ?_); rintro e w1 ⟨rfl, hx1⟩; have bb := HB.out w1 exA; have q0 : w1.cell? ⟨w.heap.size, 0, none⟩ = some (.int .i64 gen) := bb.cell 0; have q1 : w1.cell? ⟨w.heap.size, 1, none⟩ = some (.int .i64 next) := bb.cell 1; have q2 : w1.cell? ⟨w.heap.size, 2, none⟩ = some (.int .i64 floor) := bb.cell 2; have q3 : w1.cell? ⟨w.heap.size, 3, none⟩ = some (.int .i64 snap) := bb.cell 3; have q4 : w1.cell? ⟨w.heap.size, 4, none⟩ = some (.int .i64 snapSeq) := bb.cell 4; have q5 : w1.cell? ⟨w.heap.size, 5, none⟩ = some (.slice A n c) := bb.cell 5)
        | (go_at_call 103; (with_reducible refine (K3.out _).mono ?_); rintro e w1 ⟨rfl, hx1⟩; have bb := HB.out w1 exA; have q0 : w1.cell? ⟨w.heap.size, 0, none⟩ = some (.int .i64 gen) := bb.cell 0; have q1 : w1.cell? ⟨w.heap.size, 1, none⟩ = some (.int .i64 next) := bb.cell 1; have q2 : w1.cell? ⟨w.heap.size, 2, none⟩ = some (.int .i64 floor) := bb.cell 2; have q3 : w1.cell? ⟨w.heap.size, 3, none⟩ = some (.int .i64 snap) := bb.cell 3; have q4 : w1.cell? ⟨w.heap.size, 4, none⟩ = some (.int .i64 snapSeq) := bb.cell 4; have q5 : w1.cell? ⟨w.heap.size, 5, none⟩ = some (.slice A n c) := bb.cell 5)
        | (go_at_call 103; (with_reducible refine (K4.out _).mono ?_); rintro e w1 ⟨rfl, hx1⟩; have bb := HB.out w1 exA; have q0 : w1.cell? ⟨w.heap.size, 0, none⟩ = some (.int .i64 gen) := bb.cell 0; have q1 : w1.cell? ⟨w.heap.size, 1, none⟩ = some (.int .i64 next) := bb.cell 1; have q2 : w1.cell? ⟨w.heap.size, 2, none⟩ = some (.int .i64 floor) := bb.cell 2; have q3 : w1.cell? ⟨w.heap.size, 3, none⟩ = some (.int .i64 snap) := bb.cell 3; have q4 : w1.cell? ⟨w.heap.size, 4, none⟩ = some (.int .i64 snapSeq) := bb.cell 4; have q5 : w1.cell? ⟨w.heap.size, 5, none⟩ = some (.slice A n c) := bb.cell 5)
        | (go_at_call 103; (with_reducible refine (K5.out _).mono ?_); rintro e w1 ⟨rfl, hx1⟩; have bb := HB.out w1 exA; have q0 : w1.cell? ⟨w.heap.size, 0, none⟩ = some (.int .i64 gen) := bb.cell 0; have q1 : w1.cell? ⟨w.heap.size, 1, none⟩ = some (.int .i64 next) := bb.cell 1; have q2 : w1.cell? ⟨w.heap.size, 2, none⟩ = some (.int .i64 floor) := bb.cell 2; have q3 : w1.cell? ⟨w.heap.size, 3, none⟩ = some (.int .i64 snap) := bb.cell 3; have q4 : w1.cell? ⟨w.heap.size, 4, none⟩ = some (.int .i64 snapSeq) := bb.cell 4; have q5 : w1.cell? ⟨w.heap.size, 5, none⟩ = some (.slice A n c) := bb.cell 5)
        | (go_at_call 104; (with_reducible refine (KC2.out _ exA).mono ?_); rintro e w1 ⟨rfl, hx1⟩))
      go_ret
      exact ⟨by rw [hres.out]; rfl, exA⟩
end Go.Proofs.YtjajbbgebblalaaGreatDoor
