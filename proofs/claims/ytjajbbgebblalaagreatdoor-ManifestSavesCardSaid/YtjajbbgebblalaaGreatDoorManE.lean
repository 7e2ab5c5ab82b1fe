/-
  The walks of manifest.Encode, Size, and the reference's Encode.
-/
/-
  The walk of the reference's Valid of manifests. (Written by wip/tools/gen_mrvalid.py.)
-/
/-
  The walks of the reference's Encode of manifests (written by wip/tools/gen_mrenc.py), and of manifest.Size.
-/
import Derived.Test.YtjajbbgebblalaaGreatDoorShrT
import Derived.Test.YtjajbbgebblalaaGreatDoorManW
import Derived.Test.YtjajbbgebblalaaGreatDoorManM
import Derived.Test.YtjajbbgebblalaaGreatDoorFrmW
import Derived.Test.YtjajbbgebblalaaGreatDoorVlsW
namespace Go.Proofs.YtjajbbgebblalaaGreatDoor
open Go.RowKit
set_option linter.unusedVariables false
set_option linter.unusedSimpArgs false
theorem u64s_app2 (a b : List Nat) : u64s a ++ u64s b = u64s (a ++ b) := by simp [u64s]
theorem one_u64s (a : List Nat) : ∀ u ∈ u64s a, u.oneCell' = true := fun u hu => by simp [u64s] at hu; obtain ⟨x, _, rfl⟩ := hu; rfl
def mU (m : Mf) (k : Nat) : List Nat := [m.next.toNat, m.floor.toNat, m.snap.toNat, m.snapSeq.toNat] ++ (m.segs.take k).flatMap segU
theorem mU_len {m : Mf} {k : Nat} (h : k ≤ m.segs.length) : (mU m k).length = 4 + 4 * k := by
  unfold mU
  rw [List.length_append, segU_len, List.length_take, Nat.min_eq_left h]; rfl
theorem mU_succ {m : Mf} {k : Nat} (h : k < m.segs.length) : mU m (k + 1) = mU m k ++ segU m.segs[k] := by
  unfold mU
  rw [List.take_succ_eq_append_getElem h, List.flatMap_append, List.append_assoc]
  simp
theorem mU_all (m : Mf) : mU m m.segs.length = manU m := by
  unfold mU manU
  rw [List.take_length]
theorem rd_four64 {w : World} {g : Nat} (a b c d : Nat) (hg : w.heap.size = g) : Rd (w.alloc (.cells #[.int .u64 (a : Nat), .int .u64 (b : Nat), .int .u64 (c : Nat), .int .u64 (d : Nat)] 112)) (some ⟨g, 0, none⟩) 4 (u64s [a, b, c, d]) := by
  subst hg
  exact rd_new w #[.int .u64 (a : Nat), .int .u64 (b : Nat), .int .u64 (c : Nat), .int .u64 (d : Nat)] 112
/-- What Encode answers, in memory. -/
def MePost (w : World) (r : List UInt8 × Nat) (e : Ending) (w' : World) : Prop :=
  ∃ A c, e = .returned (.tuple #[.slice A r.1.length c, .int .i64 (r.2 : Nat)]) ∧ Ext w w' ∧ w'.ownsRow w.heap.size 5 1 (.slice A r.1.length c) r.1.length (u8s r.1)
def MeR (W0 : World) (m : Mf) (v4 v26 : Value) (wr : World) : Prop :=
  ∃ (k : Nat) (B : Option Addr) (d : Nat), v26 = .int .i64 (k : Nat) ∧ k ≤ m.segs.length ∧ v4 = .slice B (4 + 4 * k) d ∧ Ext W0 wr ∧ wr.ownsRow W0.heap.size 112 1 (.slice B (4 + 4 * k) d) (4 + 4 * k) (u64s (mU m k))
set_option maxRecDepth 100000 in
set_option maxHeartbeats 4000000 in
theorem menc_any (m : Mf) (A : Option Addr) (c : Nat) (w : World) (hN : Nib w) (hr : SgRd w A m.segs) (hl : m.segs.length ≤ 4398046510976) (hi : MI64 m.next) :
    Calls Tryz.prog 43 #[.agg (mfcells m A c)] w (MePost w (manE m)) := by
  have HR := Lib.hid hr
  have KV := Lib.hid fun W (hx : Ext w W) => mvalid_any m A c W (hr.ext hx) hl hi
  cases hv : manB m with
  | false =>
    have hE := Lib.hid (manE_bad hv)
    rw [hv] at KV
    clear hv hr hl hi hN
    unfold mfcells at KV ⊢
    go_enter Tryz.func43, Tryz.ntmps43
    go_wp2_with (go_at_call 47; (with_reducible refine (KV.out _ exA).mono ?_); rintro e w1 ⟨rfl, hx1⟩)
    go_ret2
    rw [hE.out]
    exact ⟨none, 0, rfl, exA, World.ownsRow_nil _ _ _ _⟩
  | true =>
    have hok := man_ok hv
    have hsm := manU_small hok
    have hsg := (man_segs hok).2
    have hb := man_body hok
    have hgen := hok.gen
    have hnext := hok.next
    have hfl := hok.floor
    have hsn := hok.snap
    have hss := hok.snapSeq
    have hln := hok.len
    have hE := Lib.hid (manE_ok hv)
    rw [hv] at KV
    have HB := Lib.hid (mf_wid w m A c)
    have hx0 : Ext w (w.alloc (.cells (mfcells m A c) 25)) := ExtA (Ext.rfl' w)
    have HSg := Lib.hid hsg
    have HSm := Lib.hid hsm
    obtain ⟨n, hn⟩ : ∃ n, n = m.segs.length := ⟨_, rfl⟩
    have HNn := Lib.hid hn
    have hn6 : n ≤ 256 := by omega
    obtain ⟨G, hG⟩ : ∃ G : Nat, m.gen = (G : Int) := ⟨m.gen.toNat, by omega⟩
    obtain ⟨X, hX⟩ : ∃ X : Nat, m.next = (X : Int) := ⟨m.next.toNat, by omega⟩
    obtain ⟨Fl, hF⟩ : ∃ Fl : Nat, m.floor = (Fl : Int) := ⟨m.floor.toNat, by omega⟩
    obtain ⟨Sn, hSn⟩ : ∃ Sn : Nat, m.snap = (Sn : Int) := ⟨m.snap.toNat, by omega⟩
    obtain ⟨Ss, hSs⟩ : ∃ Ss : Nat, m.snapSeq = (Ss : Int) := ⟨m.snapSeq.toNat, by omega⟩
    have hU0 : Hid (mU m 0 = [X, Fl, Sn, Ss]) := Lib.hid (by unfold mU; rw [hX, hF, hSn, hSs]; rfl)
    have HGt : Hid (m.gen.toNat = G) := Lib.hid (by rw [hG]; rfl)
    unfold mfcells at KV HB hx0 ⊢
    rw [hG, hX, hF, hSn, hSs, ← hn] at KV HB hx0 ⊢
    rw [hG] at hgen
    rw [hX] at hnext
    rw [hF] at hfl
    rw [hSn, hX] at hsn
    rw [hSs] at hss
    rw [hSs] at hfl
    clear hv hr hl hi hok hsm hsg hG hX hF hSn hSs hn
    go_enter Tryz.func43, Tryz.ntmps43
    go_upto_region 3 with (go_at_call 47; (with_reducible refine (KV.out _ exA).mono ?_); rintro e w1 ⟨rfl, hx1⟩; have b2 := HB.out w1 exA)
    have hw1 : Ext w w1 := hx0.tr hx1
    have q0 : w1.cell? ⟨w.heap.size, 0, none⟩ = some (.int .i64 (G : Nat)) := b2.cell 0
    have q1 : w1.cell? ⟨w.heap.size, 1, none⟩ = some (.int .i64 (X : Nat)) := b2.cell 1
    have q2 : w1.cell? ⟨w.heap.size, 2, none⟩ = some (.int .i64 (Fl : Nat)) := b2.cell 2
    have q3 : w1.cell? ⟨w.heap.size, 3, none⟩ = some (.int .i64 (Sn : Nat)) := b2.cell 3
    have q4 : w1.cell? ⟨w.heap.size, 4, none⟩ = some (.int .i64 (Ss : Nat)) := b2.cell 4
    have q5 : w1.cell? ⟨w.heap.size, 5, none⟩ = some (.slice A n c) := b2.cell 5
    have q6 : w.heap.size < w1.heap.size := b2.lt
    go_wp2_with fail
    have hw1s : w.heap.size ≤ w1.heap.size := hw1.size
    have HX1 := Lib.hid hx1
    clear hx1 q0 q1 q2 q3 q4
    go_loopw [4, 6, 26] (fun v4 _ v26 wr => MeR w1 m v4 v26 wr) (fun _ _ v26 _ => n - (intOf v26).toNat)
    case atStart => exact ⟨0, some ⟨w1.heap.size, 0, none⟩, 4, rfl, by omega, rfl, exA, by rw [hU0.out]; exact own_new w1 w1.heap.size #[.int .u64 (X : Nat), .int .u64 (Fl : Nat), .int .u64 (Sn : Nat), .int .u64 (Ss : Nat)] 112 4 (Nat.le_refl _) (by decide) rfl⟩
    case round =>
      obtain ⟨k, B, d, rfl, hk, rfl, hx, ho⟩ := hrel
      rw [← HNn.out] at hk
      have hsz : w1.heap.size ≤ wr.heap.size := hx.size
      have HO := Lib.hid ho
      have HX := Lib.hid hx
      by_cases hlt : k < n
      · obtain ⟨b, o, rfl, hc⟩ := sg_at HR.out (show k < m.segs.length by rw [← HNn.out]; exact hlt)
        have Hc := Lib.hid (range_ext hc (hw1.tr hx))
        have hgb := HSg.out _ (List.getElem_mem (show k < m.segs.length by rw [← HNn.out]; exact hlt))
        have hst := mU_succ (m := m) (k := k) (by rw [← HNn.out]; exact hlt)
        have hal := alloc_sg
        clear hc ho
        generalize m.segs[k]'(by rw [← HNn.out]; exact hlt) = g at *
        obtain ⟨gn, gf, gc, go⟩ := g
        dsimp only at hgb
        obtain ⟨⟨n0, n1⟩, ⟨f0, f1⟩, ⟨c0, c1⟩, ⟨o0, o1⟩⟩ := hgb
        obtain ⟨gn, rfl⟩ := Int.eq_ofNat_of_zero_le n0
        obtain ⟨gf, rfl⟩ := Int.eq_ofNat_of_zero_le f0
        obtain ⟨gc, rfl⟩ := Int.eq_ofNat_of_zero_le c0
        obtain ⟨go, rfl⟩ := Int.eq_ofNat_of_zero_le o0
        unfold sgcells at Hc
        dsimp only at Hc
        have e0 : wr.cell? ⟨b, o + k * 4, none⟩ = some (.int .i64 (gn : Nat)) := Hc.out 0 _ rfl
        have e1 : wr.cell? ⟨b, o + k * 4 + 1, none⟩ = some (.int .i64 (gf : Nat)) := Hc.out 1 _ rfl
        have e2 : wr.cell? ⟨b, o + k * 4 + 2, none⟩ = some (.int .i64 (gc : Nat)) := Hc.out 2 _ rfl
        have e3 : wr.cell? ⟨b, o + k * 4 + 3, none⟩ = some (.int .i64 (go : Nat)) := Hc.out 3 _ rfl
        have HQ : Hid (u64s (mU m k) ++ u64s [gn, gf, gc, go] = u64s (mU m (k + 1))) := Lib.hid (by rw [u64s_app2, hst]; rfl)
        clear hst
        go_wp2_with (at_builtin; go_must (refine wpL_append rfl (.tmp 30) (.tmp 43) 113 rfl w1.heap.size 112 _ 1 8 Tryz.underlying113 el_u64 (.slice B (4 + 4 * k) d) _ _ rfl (own_ext exA HO.out) _ _ _ _ rfl (Rd.toN (rd_four64 gn gf gc go (by simp))) (one_u64s _) _ _ rfl HQ.out (by simp only [maxLen]; omega) (by omega) (by simp; omega) ?_); intro v1 w7 hown1 hg1 _; obtain ⟨B1, d1, rfl⟩ := own_slice hown1)
        go_roundw
        case rel => exact ⟨k + 1, B1, d1, by go_num, by have := HNn.out; omega, by rw [show 4 + 4 * (k + 1) = 4 + 4 * k + 4 by omega], Ext.grown (by exact exA) hg1 (fun r hr => own_lt HO.out r hr), by rw [show 4 + 4 * (k + 1) = 4 + 4 * k + 4 by omega]; exact hown1⟩
        case measure => simp [intOf]; omega
      · obtain rfl : k = n := by omega
        have hall : mU m k = manU m := by rw [HNn.out, mU_all]
        have hlen := manU_len m
        rw [← HNn.out] at hlen
        have ho2 := ho
        rw [hall] at ho2
        have R4 := Lib.hid (Rd.of_own ho2)
        have b9 := HB.out wr (HX1.out.tr hx)
        have q0 : wr.cell? ⟨w.heap.size, 0, none⟩ = some (.int .i64 (G : Nat)) := b9.cell 0
        have KE := Lib.hid fun W (h : Rd W B (4 + 4 * k) (u64s (manU m))) => vsenc_any B (4 + 4 * k) d (manU m) W h (fun u hu => by have := HSm.out u hu; omega) (by omega)
        unfold NewB at KE
        have hw : Ext w wr := hw1.tr hx
        have hbe : (manE m).1 = fenc 4 G (vsenc (manU m)) ∧ (manE m).2 = 0 := by rw [hE.out, HGt.out]; exact ⟨rfl, rfl⟩
        have HBE := Lib.hid hbe
        generalize vsenc (manU m) = body at *
        have KF : Hid (∀ A2 c2 W, Ext w W → Rd W A2 body.length (u8s body) → Calls Tryz.prog 80 #[.agg #[.int .i64 4, .int .i64 (G : Nat), .slice A2 body.length c2]] W fun e w' => ∃ A1 c1, e = .returned (.tuple #[.slice A1 (fenc 4 G body).length c1, .int .i64 0]) ∧ Ext W w' ∧ w'.ownsRow W.heap.size 5 1 (.slice A1 (fenc 4 G body).length c1) (fenc 4 G body).length (u8s (fenc 4 G body))) := Lib.hid fun A2 c2 W hx h => fenc_ok 4 G A2 body.length c2 body W (hN.ext hx) h (by decide) (by decide) (by omega) (by omega)
        have mixed : Tryz.prog.follows Departure.mixedOrders = true := by kernel_rfl
        obtain ⟨L, hL⟩ : ∃ L, L = body.length := ⟨_, rfl⟩
        rw [← hL] at KE KF
        generalize fenc 4 G body = FB at *
        clear hall hlen ho2 hbe ho hL b9
        go_upto_region 9 with fail
        go_region_law_o (first
          | (refine step_callG rfl _ rfl 98 _ Tryz.func98 (by kernel_rfl) (by kernel_rfl) _ _ rfl #[.slice B (4 + 4 * k) d] (by simp [Act.eval, Act.put]) _ (KE.out _ (R4.out.ext (ExtD (Ext.rfl' wr)))) ?_; rintro e w5 ⟨A5, c5, rfl, hx5, ho5⟩; have z5 : Ext wr w5 := (ExtD (Ext.rfl' wr)).tr hx5; have z0 := z5.cell q0; refine ⟨_, rfl, ?_⟩)
          | (refine step_callG rfl _ rfl 80 _ Tryz.func80 (by kernel_rfl) (by kernel_rfl) _ _ rfl #[.agg #[.int .i64 4, .int .i64 (G : Nat), .slice A5 L c5]] (by simp [Act.eval, Act.put]) _ (KF.out A5 c5 _ (hw.tr z5) (rd_own ho5)) ?_; rintro e w6 ⟨A6, c6, rfl, hx6, ho6⟩; refine ⟨_, rfl, ?_⟩))
        all_goals
          go_wp2_with fail
          go_ret2
          refine ⟨A6, c6, ?_, exA, ?_⟩
          · rw [HBE.out.1, HBE.out.2]
            rfl
          · rw [HBE.out.1]
            exact own_base ho6 (Nat.le_trans hw.size z5.size)
end Go.Proofs.YtjajbbgebblalaaGreatDoor

namespace Go.Proofs.YtjajbbgebblalaaGreatDoor
open Go.RowKit
set_option linter.unusedVariables false
set_option linter.unusedSimpArgs false
def RvR (W0 : World) (m : Mf) (V : Bool) (v4 v92 : Value) (wr : World) : Prop :=
  ∃ (k : Nat) (F N : Int), v92 = .int .i64 (k : Nat) ∧ k < m.segs.length ∧ v4 = .int .i64 F ∧ 0 ≤ N ∧ (k = 0 → N = 0) ∧ (∀ j, k = j + 1 → ∃ h : j < m.segs.length, m.segs[j].num = N) ∧ 1 ≤ F ∧ F ≤ 1099511627777 + 512 * (k : Int) ∧ Ext W0 wr ∧ Hid (V = chainB m.next F N (m.segs.drop k))
set_option maxRecDepth 100000 in
set_option maxHeartbeats 40000000 in
theorem mrvalid_any (m : Mf) (A : Option Addr) (c : Nat) (w : World) (hr : SgRd w A m.segs) (hl : m.segs.length ≤ 4398046510976) :
    Calls Tryz.prog 54 #[.agg (mfcells m A c)] w fun e w' => e = .returned (.bool (manB m)) ∧ Ext w w' := by
  have HR := Lib.hid hr
  have HB := Lib.hid (mf_wid w m A c)
  have hx0 : Ext w (w.alloc (.cells (mfcells m A c) 25)) := ExtA (Ext.rfl' w)
  obtain ⟨n, hn⟩ : ∃ n, n = m.segs.length := ⟨_, rfl⟩
  have HNn := Lib.hid hn
  unfold mfcells at HB hx0 ⊢
  unfold manB
  rw [← hn] at HB hl hx0 ⊢
  obtain ⟨V, hV⟩ : ∃ V, V = chainB m.next (m.floor + 1) 0 m.segs := ⟨_, rfl⟩
  have HV := Lib.hid hV
  rw [← hV]
  obtain ⟨gen, hgen⟩ : ∃ x, x = m.gen := ⟨_, rfl⟩
  obtain ⟨next, hnext⟩ : ∃ x, x = m.next := ⟨_, rfl⟩
  obtain ⟨floor, hfloor⟩ : ∃ x, x = m.floor := ⟨_, rfl⟩
  obtain ⟨snap, hsnap⟩ : ∃ x, x = m.snap := ⟨_, rfl⟩
  obtain ⟨snapSeq, hsnapSeq⟩ : ∃ x, x = m.snapSeq := ⟨_, rfl⟩
  have HNX := Lib.hid hnext
  have HFl := Lib.hid hfloor
  rw [← hgen, ← hnext, ← hfloor, ← hsnap, ← hsnapSeq] at HB hx0 ⊢
  obtain ⟨V2, hV2⟩ : ∃ V2 : Bool, V2 = ((decide (1 ≤ gen) && decide (gen ≤ 1099511627776)) && (decide (2 ≤ next) && decide (next ≤ 1000000)) && (decide (0 ≤ snapSeq) && decide (snapSeq ≤ 1099511627776)) && (decide (0 ≤ floor) && decide (floor ≤ snapSeq)) && (decide (0 ≤ snap) && decide (snap ≤ next - 1)) && (decide (snap = 0) == decide (snapSeq = 0)) && decide (n ≤ 256) && V) := ⟨_, rfl⟩
  rw [← hV2]
  have HV2 := Lib.hid hV2
  clear hn hr hV hgen hnext hfloor hsnap hsnapSeq hV2
  by_cases h0 : gen < 1
  · have u0 : decide (gen < 1) = true := by simpa using h0
    have hres : Hid (V2 = false) := Lib.hid (by rw [HV2.out, show decide (1 ≤ gen) = false by simp; omega]; simp)
    go_enter Tryz.func54, Tryz.ntmps54
    go_wp2_with fail
    go_ret
    exact ⟨by rw [hres.out]; rfl, exA⟩
  have u0 : decide (gen < 1) = false := by simp; omega
  by_cases h1 : 1099511627776 < gen
  · have u1 : decide (1099511627776 < gen) = true := by simpa using h1
    have hres : Hid (V2 = false) := Lib.hid (by rw [HV2.out, show decide (gen ≤ 1099511627776) = false by simp; omega]; simp)
    go_enter Tryz.func54, Tryz.ntmps54
    go_wp2_with fail
    go_ret
    exact ⟨by rw [hres.out]; rfl, exA⟩
  have u1 : decide (1099511627776 < gen) = false := by simp; omega
  by_cases h2 : next < 2
  · have u2 : decide (next < 2) = true := by simpa using h2
    have hres : Hid (V2 = false) := Lib.hid (by rw [HV2.out, show decide (2 ≤ next) = false by simp; omega]; simp)
    go_enter Tryz.func54, Tryz.ntmps54
    go_wp2_with fail
    go_ret
    exact ⟨by rw [hres.out]; rfl, exA⟩
  have u2 : decide (next < 2) = false := by simp; omega
  by_cases h3 : 1000000 < next
  · have u3 : decide (1000000 < next) = true := by simpa using h3
    have hres : Hid (V2 = false) := Lib.hid (by rw [HV2.out, show decide (next ≤ 1000000) = false by simp; omega]; simp)
    go_enter Tryz.func54, Tryz.ntmps54
    go_wp2_with fail
    go_ret
    exact ⟨by rw [hres.out]; rfl, exA⟩
  have u3 : decide (1000000 < next) = false := by simp; omega
  by_cases h4 : snapSeq < 0
  · have u4 : decide (snapSeq < 0) = true := by simpa using h4
    have hres : Hid (V2 = false) := Lib.hid (by rw [HV2.out, show decide (0 ≤ snapSeq) = false by simp; omega]; simp)
    go_enter Tryz.func54, Tryz.ntmps54
    go_wp2_with fail
    go_ret
    exact ⟨by rw [hres.out]; rfl, exA⟩
  have u4 : decide (snapSeq < 0) = false := by simp; omega
  by_cases h5 : 1099511627776 < snapSeq
  · have u5 : decide (1099511627776 < snapSeq) = true := by simpa using h5
    have hres : Hid (V2 = false) := Lib.hid (by rw [HV2.out, show decide (snapSeq ≤ 1099511627776) = false by simp; omega]; simp)
    go_enter Tryz.func54, Tryz.ntmps54
    go_wp2_with fail
    go_ret
    exact ⟨by rw [hres.out]; rfl, exA⟩
  have u5 : decide (1099511627776 < snapSeq) = false := by simp; omega
  by_cases h6 : floor < 0
  · have u6 : decide (floor < 0) = true := by simpa using h6
    have hres : Hid (V2 = false) := Lib.hid (by rw [HV2.out, show decide (0 ≤ floor) = false by simp; omega]; simp)
    go_enter Tryz.func54, Tryz.ntmps54
    go_wp2_with fail
    go_ret
    exact ⟨by rw [hres.out]; rfl, exA⟩
  have u6 : decide (floor < 0) = false := by simp; omega
  by_cases h7 : snapSeq < floor
  · have u7 : decide (snapSeq < floor) = true := by simpa using h7
    have hres : Hid (V2 = false) := Lib.hid (by rw [HV2.out, show decide (floor ≤ snapSeq) = false by simp; omega]; simp)
    go_enter Tryz.func54, Tryz.ntmps54
    go_wp2_with fail
    go_ret
    exact ⟨by rw [hres.out]; rfl, exA⟩
  have u7 : decide (snapSeq < floor) = false := by simp; omega
  by_cases h8 : snap < 0
  · have u8 : decide (snap < 0) = true := by simpa using h8
    have hres : Hid (V2 = false) := Lib.hid (by rw [HV2.out, show decide (0 ≤ snap) = false by simp; omega]; simp)
    go_enter Tryz.func54, Tryz.ntmps54
    go_wp2_with fail
    go_ret
    exact ⟨by rw [hres.out]; rfl, exA⟩
  have u8 : decide (snap < 0) = false := by simp; omega
  by_cases h9 : next ≤ snap
  · have u9 : decide (next ≤ snap) = true := by simpa using h9
    have hres : Hid (V2 = false) := Lib.hid (by rw [HV2.out, show decide (snap ≤ next - 1) = false by simp; omega]; simp)
    go_enter Tryz.func54, Tryz.ntmps54
    go_wp2_with fail
    go_ret
    exact ⟨by rw [hres.out]; rfl, exA⟩
  have u9 : decide (next ≤ snap) = false := by simp; omega
  have hx5 : 0 < n → Hid (n ≤ 256) → Hid (V2 = (decide (snap = 0) == decide (snapSeq = 0) && V)) := fun _ h6 => Lib.hid (by
    have h6 := h6.out
    rw [HV2.out, show decide (1 ≤ gen) = true by simp; omega, show decide (gen ≤ 1099511627776) = true by simp; omega, show decide (2 ≤ next) = true by simp; omega, show decide (next ≤ 1000000) = true by simp; omega, show decide (0 ≤ snapSeq) = true by simp; omega, show decide (snapSeq ≤ 1099511627776) = true by simp; omega, show decide (0 ≤ floor) = true by simp; omega, show decide (floor ≤ snapSeq) = true by simp; omega, show decide (0 ≤ snap) = true by simp; omega, show decide (snap ≤ next - 1) = true by simp; omega, show decide (n ≤ 256) = true by simp; omega]
    cases (decide (snap = 0) == decide (snapSeq = 0)) <;> rfl)
  have Hx5 := Lib.hid hx5
  clear hx5
  by_cases hne : (snap = 0 ∧ snapSeq ≠ 0) ∨ (snap ≠ 0 ∧ snapSeq = 0)
  · have hres : Hid (V2 = false) := Lib.hid (by
      rw [HV2.out]
      rcases hne with ⟨a, b⟩ | ⟨a, b⟩ <;> simp [a, b])
    rcases hne with ⟨rfl, b⟩ | ⟨a, rfl⟩
    · have y2 : (snapSeq == 0) = false := by simpa using b
      have y3 : (snapSeq != 0) = true := by simpa using b
      clear HV2 Hx5
      go_enter Tryz.func54, Tryz.ntmps54
      go_wp2_with fail
      go_ret
      exact ⟨by rw [hres.out]; rfl, exA⟩
    · have y1 : (snap == 0) = false := by simpa using a
      have y3 : (snap != 0) = true := by simpa using a
      clear HV2 Hx5
      go_enter Tryz.func54, Tryz.ntmps54
      go_wp2_with fail
      go_ret
      exact ⟨by rw [hres.out]; rfl, exA⟩
  have Hne : Hid ((snap = 0 ∧ snapSeq = 0) ∨ (snap ≠ 0 ∧ snapSeq ≠ 0)) := Lib.hid (by omega)
  clear hne
  have hp0 : 1 ≤ floor + 1 ∧ floor + 1 ≤ 1099511627777 := by omega
  go_enter Tryz.func54, Tryz.ntmps54
  go_upto_region 3 with fail
  go_cut [76] (fun v76 wc => v76 = .bool false ∧ wc = w.alloc (.cells #[.int .i64 gen, .int .i64 next, .int .i64 floor, .int .i64 snap, .int .i64 snapSeq, .slice A n c] 25))
  case first =>
    clear HB HV2 Hx5
    rcases Hne.out with ⟨rfl, rfl⟩ | ⟨a, b⟩
    · go_wp2_with fail
      go_meet
      case rel => exact ⟨rfl, rfl⟩
    · have y1 : (snap == 0) = false := by simpa using a
      have y2 : (snapSeq == 0) = false := by simpa using b
      have y3 : (snap != 0) = true := by simpa using a
      have y4 : (snapSeq != 0) = true := by simpa using b
      go_wp2_with fail
      go_meet
      case rel => exact ⟨rfl, rfl⟩
  case rest =>
    obtain ⟨rfl, rfl⟩ := hcut
    by_cases h13 : n < 1
    · have u13 : decide ((n : Int) < 1) = true := by simp; omega
      have hres : Hid (V2 = false) := Lib.hid (by
        have hs : m.segs = [] := List.eq_nil_of_length_eq_zero (by have := HNn.out; omega)
        rw [HV2.out, HV.out, hs]
        simp [chainB])
      go_wp2_with fail
      go_ret
      exact ⟨by rw [hres.out]; rfl, exA⟩
    have u13 : decide ((n : Int) < 1) = false := by simp; omega
    by_cases h14 : 256 < n
    · have u14 : decide ((256 : Int) < (n : Int)) = true := by simp; omega
      have hres : Hid (V2 = false) := Lib.hid (by rw [HV2.out, show decide (n ≤ 256) = false by simp; omega]; simp)
      go_wp2_with fail
      go_ret
      exact ⟨by rw [hres.out]; rfl, exA⟩
    have u14 : decide ((256 : Int) < (n : Int)) = false := by simp; omega
    have hres0 : Hid (V2 = V) := Lib.hid (by
      rw [(Hx5.out (by omega) (Lib.hid (by omega))).out]
      rcases Hne.out with ⟨a, b⟩ | ⟨a, b⟩ <;> simp [a, b])
    clear HV2 Hx5
    have hn6 : n ≤ 256 := by omega
    have hn1 : 1 ≤ n := by omega
    go_wp2_with fail
    generalize w.alloc (.cells #[.int .i64 gen, .int .i64 next, .int .i64 floor, .int .i64 snap, .int .i64 snapSeq, .slice A n c] 25) = W0 at *
    go_loopw [4, 5, 6, 92] (fun v4 _ _ v92 wr => RvR W0 m V2 v4 v92 wr) (fun _ _ _ v92 _ => n - (intOf v92).toNat)
    case atStart => exact ⟨0, floor + 1, 0, rfl, by have := HNn.out; omega, rfl, by omega, fun _ => rfl, fun j h => by omega, by omega, by omega, Ext.rfl' _, Lib.hid (by rw [hres0.out, HV.out, HFl.out]; rfl)⟩
    case round =>
      obtain ⟨k, F, N, rfl, hk, rfl, hN0, hNz, hNp, hF0, hF1, hx, HC⟩ := hrel
      rw [← HNn.out] at hk
      have hxw := hx0.tr hx
      have bB := HB.out wr hx
      have f1 : wr.cell? ⟨w.heap.size, 1, none⟩ = some (.int .i64 next) := bB.cell 1
      have f5 : wr.cell? ⟨w.heap.size, 5, none⟩ = some (.slice A n c) := bB.cell 5
      have hb0 : w.heap.size < wr.heap.size := bB.lt
      obtain ⟨b, o, rfl, hc⟩ := sg_at HR.out (show k < m.segs.length by rw [← HNn.out]; exact hk)
      have Hc := Lib.hid (range_ext hc hxw)
      have hdr : m.segs.drop k = m.segs[k]'(by rw [← HNn.out]; exact hk) :: m.segs.drop (k + 1) := List.drop_eq_getElem_cons _
      have HC2 := HC.out
      rw [hdr] at HC2
      have HD : Hid ((m.segs.drop (k + 1)).isEmpty = decide (k + 1 = n)) := Lib.hid (by rw [Bool.eq_iff_iff]; simp; have := HNn.out; omega)
      have hgk : Hid (m.segs[k]'(by rw [← HNn.out]; exact hk) = m.segs[k]'(by rw [← HNn.out]; exact hk)) := Lib.hid rfl
      obtain ⟨g, hg⟩ : ∃ g, g = m.segs[k]'(by rw [← HNn.out]; exact hk) := ⟨_, rfl⟩
      rw [← hg] at HC2 Hc
      have Hg := Lib.hid hg
      have HNp := Lib.hid hNp
      clear hc hdr HC hg hgk hNp
      obtain ⟨gn, gf, gc, go⟩ := g
      unfold sgcells at Hc
      dsimp only at Hc
      have hal := alloc_sg
      have e0 : wr.cell? ⟨b, o + k * 4, none⟩ = some (.int .i64 gn) := Hc.out 0 _ rfl
      have e1 : wr.cell? ⟨b, o + k * 4 + 1, none⟩ = some (.int .i64 gf) := Hc.out 1 _ rfl
      have e2 : wr.cell? ⟨b, o + k * 4 + 2, none⟩ = some (.int .i64 gc) := Hc.out 2 _ rfl
      have e3 : wr.cell? ⟨b, o + k * 4 + 3, none⟩ = some (.int .i64 go) := Hc.out 3 _ rfl
      rw [chain_cons, HD.out, ← HNX.out] at HC2
      have HC := Lib.hid HC2
      clear HC2 HD bB
      have t93 : decide ((k : Int) < (n : Int)) = true := by simp; omega
      by_cases c0 : gn < 1
      · have v0 : decide (gn < 1) = true := by simpa using c0
        have hres : Hid (V2 = false) := Lib.hid (by rw [HC.out, show decide (N < gn) = false by simp; omega]; simp)
        go_wp2_with fail
        go_quiet (fail)
        go_wp2_with fail
        go_ret
        exact ⟨by rw [hres.out]; rfl, exA⟩
      have v0 : decide (gn < 1) = false := by simp; omega
      by_cases c1 : next ≤ gn
      · have v1 : decide (next ≤ gn) = true := by simpa using c1
        have hres : Hid (V2 = false) := Lib.hid (by rw [HC.out, show decide (gn < next) = false by simp; omega]; simp)
        go_wp2_with fail
        go_quiet (fail)
        go_wp2_with fail
        go_ret
        exact ⟨by rw [hres.out]; rfl, exA⟩
      have v1 : decide (next ≤ gn) = false := by simp; omega
      by_cases hk0 : k = 0
      · have hN : N ≤ 0 := by have := hNz hk0; omega
        have hk1 : k < 1 := by omega
        have hk2 : k = 0 → False ∨ True := fun _ => .inr trivial
        have v2 : decide (0 < k) = false := by simp; omega
        have v3 : decide ((0 : Int) < (k : Int)) = false := by simp; omega
        clear hk0 hk2 hNz
        by_cases c3 : gf = F
        case neg =>
          have v4 : (gf == F) = false := by simpa using c3
          have v4b : (gf != F) = true := by simpa using c3
          have hres : Hid (V2 = false) := Lib.hid (by rw [HC.out, show decide (gf = F) = false by simpa using c3]; simp)
          go_wp2_with fail
          go_quiet (fail)
          go_wp2_with fail
          go_ret
          exact ⟨by rw [hres.out]; rfl, exA⟩
        subst c3
        have HC3 := HC.out
        rw [decide_eq_true rfl, show decide (N < gn) = true by simp; omega, show decide (gn < next) = true by simp; omega, Bool.true_and, Bool.true_and, Bool.true_and] at HC3
        have v4 : (gf == gf) = true := by simp
        by_cases hl : k + 1 = n
        · rw [decide_eq_true hl, if_pos rfl] at HC3
          have HC4 := Lib.hid HC3
          have v5 : ((k : Int) == (n : Int) - 1) = true := by simp; omega
          clear HC HC3
          by_cases h5 : gc = 0
          · subst h5
            by_cases h6 : go = 0
            · subst h6
              have hres : Hid (V2 = decide (gf ≤ 1099511627777)) := Lib.hid (by rw [HC4.out]; simp)
              go_wp2_with fail
              go_quiet (fail)
              go_wp2_with fail
              go_ret
              exact ⟨by rw [hres.out]; rfl, exA⟩
            · have u6 : (go == 0) = false := by simpa using h6
              have hres : Hid (V2 = false) := Lib.hid (by rw [HC4.out]; simp [h6])
              go_wp2_with fail
              go_quiet (fail)
              go_wp2_with fail
              go_ret
              exact ⟨by rw [hres.out]; rfl, exA⟩
          · have u5 : (gc == 0) = false := by simpa using h5
            have hres : Hid (V2 = false) := Lib.hid (by rw [HC4.out]; simp [h5])
            go_wp2_with fail
            go_quiet (fail)
            go_wp2_with fail
            go_ret
            exact ⟨by rw [hres.out]; rfl, exA⟩
        · rw [decide_eq_false hl, if_neg (by decide)] at HC3
          have HC4 := Lib.hid HC3
          have v5 : ((k : Int) == (n : Int) - 1) = false := by simp; omega
          clear HC HC3
          by_cases h5 : gc < 1
          · have wh5 : decide (gc < 1) = true := by simpa using h5
            have hres : Hid (V2 = false) := Lib.hid (by rw [HC4.out]; rw [show decide (1 ≤ gc) = false by simp; omega]; simp)
            go_wp2_with fail
            go_quiet (fail)
            go_wp2_with fail
            go_ret
            exact ⟨by rw [hres.out]; rfl, exA⟩
          have wh5 : decide (gc < 1) = false := by simp; omega
          by_cases h6 : 512 < gc
          · have wh6 : decide (512 < gc) = true := by simpa using h6
            have hres : Hid (V2 = false) := Lib.hid (by rw [HC4.out]; rw [show decide (gc ≤ 512) = false by simp; omega]; simp)
            go_wp2_with fail
            go_quiet (fail)
            go_wp2_with fail
            go_ret
            exact ⟨by rw [hres.out]; rfl, exA⟩
          have wh6 : decide (512 < gc) = false := by simp; omega
          by_cases h7 : go < 1
          · have wh7 : decide (go < 1) = true := by simpa using h7
            have hres : Hid (V2 = false) := Lib.hid (by rw [HC4.out]; rw [show decide (1 ≤ go) = false by simp; omega]; simp)
            go_wp2_with fail
            go_quiet (fail)
            go_wp2_with fail
            go_ret
            exact ⟨by rw [hres.out]; rfl, exA⟩
          have wh7 : decide (go < 1) = false := by simp; omega
          by_cases h8 : 1099511627776 < go
          · have wh8 : decide (1099511627776 < go) = true := by simpa using h8
            have hres : Hid (V2 = false) := Lib.hid (by rw [HC4.out]; rw [show decide (go ≤ 1099511627776) = false by simp; omega]; simp)
            go_wp2_with fail
            go_quiet (fail)
            go_wp2_with fail
            go_ret
            exact ⟨by rw [hres.out]; rfl, exA⟩
          have wh8 : decide (1099511627776 < go) = false := by simp; omega
          have hres : Hid (V2 = chainB m.next (gf + gc) gn (m.segs.drop (k + 1))) := Lib.hid (by rw [HC4.out, show decide (1 ≤ gc) = true by simp; omega, show decide (gc ≤ 512) = true by simp; omega, show decide (1 ≤ go) = true by simp; omega, show decide (go ≤ 1099511627776) = true by simp; omega, ← HNX.out]; rfl)
          clear HC4
          go_wp2_with fail
          go_quiet (fail)
          go_wp2_with fail
          go_roundw
          case rel => exact ⟨k + 1, gf + gc, gn, by go_num, by have := HNn.out; omega, rfl, by omega, fun h => by omega, fun j h => ⟨by have := HNn.out; omega, by obtain rfl : j = k := (by omega); rw [← Hg.out]⟩, by omega, by omega, exA, hres⟩
          case measure => simp [intOf]; omega
      · obtain ⟨j, hj⟩ : ∃ j, k = j + 1 := ⟨k - 1, by omega⟩
        obtain ⟨hjl, hjN⟩ := HNp.out j hj
        have v2 : decide (0 < k) = true := by simp; omega
        have v3 : decide ((0 : Int) < (k : Int)) = true := by simp; omega
        have hkj : (k : Int) - 1 = (j : Int) := by omega
        have hwk : IntKind.i64.wrap (j : Int) = (j : Int) := by rw [IntKind.wrap_i64]; omega
        obtain ⟨_, _, hA1, hcp⟩ := sg_at HR.out hjl
        injection hA1 with hA1
        injection hA1 with hb ho
        subst hb ho
        have ep : wr.cell? ⟨b, o + j * 4, none⟩ = some (.int .i64 N) := by have := (range_ext hcp hxw) 0 _ rfl; rw [hjN] at this; exact this
        have hjn : j < n := by omega
        have epA : ∀ ob, (wr.alloc ob).cell? ⟨b, o + j * 4, none⟩ = some (.int .i64 N) := fun ob => (ExtA (o := ob) (Ext.rfl' wr)).cell ep
        have hbb : b < wr.heap.size := World.block_lt_of_cell? wr _ ep
        clear hcp hjN hj
        by_cases c2 : gn ≤ N
        · have v6 : decide (gn ≤ N) = true := by simpa using c2
          have hres : Hid (V2 = false) := Lib.hid (by rw [HC.out, show decide (N < gn) = false by simp; omega]; simp)
          go_wp2_with fail
          go_quiet (fail)
          go_wp2_with fail
          go_ret
          exact ⟨by rw [hres.out]; rfl, exA⟩
        have v6 : decide (gn ≤ N) = false := by simp; omega
        by_cases c3 : gf = F
        case neg =>
          have v4 : (gf == F) = false := by simpa using c3
          have v4b : (gf != F) = true := by simpa using c3
          have hres : Hid (V2 = false) := Lib.hid (by rw [HC.out, show decide (gf = F) = false by simpa using c3]; simp)
          go_wp2_with fail
          go_quiet (fail)
          go_wp2_with fail
          go_ret
          exact ⟨by rw [hres.out]; rfl, exA⟩
        subst c3
        have HC3 := HC.out
        rw [decide_eq_true rfl, show decide (N < gn) = true by simp; omega, show decide (gn < next) = true by simp; omega, Bool.true_and, Bool.true_and, Bool.true_and] at HC3
        have v4 : (gf == gf) = true := by simp
        by_cases hl : k + 1 = n
        · rw [decide_eq_true hl, if_pos rfl] at HC3
          have HC4 := Lib.hid HC3
          have v5 : ((k : Int) == (n : Int) - 1) = true := by simp; omega
          clear HC HC3
          by_cases h5 : gc = 0
          · subst h5
            by_cases h6 : go = 0
            · subst h6
              have hres : Hid (V2 = decide (gf ≤ 1099511627777)) := Lib.hid (by rw [HC4.out]; simp)
              go_wp2_with fail
              go_quiet (fail)
              go_wp2_with fail
              go_ret
              exact ⟨by rw [hres.out]; rfl, exA⟩
            · have u6 : (go == 0) = false := by simpa using h6
              have hres : Hid (V2 = false) := Lib.hid (by rw [HC4.out]; simp [h6])
              go_wp2_with fail
              go_quiet (fail)
              go_wp2_with fail
              go_ret
              exact ⟨by rw [hres.out]; rfl, exA⟩
          · have u5 : (gc == 0) = false := by simpa using h5
            have hres : Hid (V2 = false) := Lib.hid (by rw [HC4.out]; simp [h5])
            go_wp2_with fail
            go_quiet (fail)
            go_wp2_with fail
            go_ret
            exact ⟨by rw [hres.out]; rfl, exA⟩
        · rw [decide_eq_false hl, if_neg (by decide)] at HC3
          have HC4 := Lib.hid HC3
          have v5 : ((k : Int) == (n : Int) - 1) = false := by simp; omega
          clear HC HC3
          by_cases h5 : gc < 1
          · have wh5 : decide (gc < 1) = true := by simpa using h5
            have hres : Hid (V2 = false) := Lib.hid (by rw [HC4.out]; rw [show decide (1 ≤ gc) = false by simp; omega]; simp)
            go_wp2_with fail
            go_quiet (fail)
            go_wp2_with fail
            go_ret
            exact ⟨by rw [hres.out]; rfl, exA⟩
          have wh5 : decide (gc < 1) = false := by simp; omega
          by_cases h6 : 512 < gc
          · have wh6 : decide (512 < gc) = true := by simpa using h6
            have hres : Hid (V2 = false) := Lib.hid (by rw [HC4.out]; rw [show decide (gc ≤ 512) = false by simp; omega]; simp)
            go_wp2_with fail
            go_quiet (fail)
            go_wp2_with fail
            go_ret
            exact ⟨by rw [hres.out]; rfl, exA⟩
          have wh6 : decide (512 < gc) = false := by simp; omega
          by_cases h7 : go < 1
          · have wh7 : decide (go < 1) = true := by simpa using h7
            have hres : Hid (V2 = false) := Lib.hid (by rw [HC4.out]; rw [show decide (1 ≤ go) = false by simp; omega]; simp)
            go_wp2_with fail
            go_quiet (fail)
            go_wp2_with fail
            go_ret
            exact ⟨by rw [hres.out]; rfl, exA⟩
          have wh7 : decide (go < 1) = false := by simp; omega
          by_cases h8 : 1099511627776 < go
          · have wh8 : decide (1099511627776 < go) = true := by simpa using h8
            have hres : Hid (V2 = false) := Lib.hid (by rw [HC4.out]; rw [show decide (go ≤ 1099511627776) = false by simp; omega]; simp)
            go_wp2_with fail
            go_quiet (fail)
            go_wp2_with fail
            go_ret
            exact ⟨by rw [hres.out]; rfl, exA⟩
          have wh8 : decide (1099511627776 < go) = false := by simp; omega
          have hres : Hid (V2 = chainB m.next (gf + gc) gn (m.segs.drop (k + 1))) := Lib.hid (by rw [HC4.out, show decide (1 ≤ gc) = true by simp; omega, show decide (gc ≤ 512) = true by simp; omega, show decide (1 ≤ go) = true by simp; omega, show decide (go ≤ 1099511627776) = true by simp; omega, ← HNX.out]; rfl)
          clear HC4
          go_wp2_with fail
          go_quiet (fail)
          go_wp2_with fail
          go_roundw
          case rel => exact ⟨k + 1, gf + gc, gn, by go_num, by have := HNn.out; omega, rfl, by omega, fun h => by omega, fun j h => ⟨by have := HNn.out; omega, by obtain rfl : j = k := (by omega); rw [← Hg.out]⟩, by omega, by omega, exA, hres⟩
          case measure => simp [intOf]; omega
end Go.Proofs.YtjajbbgebblalaaGreatDoor

namespace Go.Proofs.YtjajbbgebblalaaGreatDoor
open Go.RowKit
set_option linter.unusedVariables false
set_option linter.unusedSimpArgs false
set_option maxHeartbeats 1000000 in
theorem msize_any (m : Mf) (A : Option Addr) (c : Nat) (w : World) (hN : Nib w) (hr : SgRd w A m.segs) (hl : m.segs.length ≤ 4398046510976) (hi : MI64 m.next) :
    Calls Tryz.prog 46 #[.agg (mfcells m A c)] w fun e w' => e = .returned (.int .i64 ((manE m).1.length : Nat)) ∧ Ext w w' := by
  have KE := Lib.hid fun W (hx : Ext w W) => menc_any m A c W (hN.ext hx) (hr.ext hx) hl hi
  unfold MePost at KE
  generalize manE m = r at *
  obtain ⟨l, E⟩ := r
  dsimp only at KE
  clear hr hl hi
  unfold mfcells at KE ⊢
  go_enter Tryz.func46, Tryz.ntmps46
  go_wp2_with (go_at_call 43; (with_reducible refine (KE.out _ exA).mono ?_); rintro e w1 ⟨A1, c1, rfl, hx1, ho1⟩)
  go_ret
  exact ⟨rfl, exA⟩
def MrR (W0 : World) (m : Mf) (v4 v26 : Value) (wr : World) : Prop :=
  ∃ (k : Nat) (B : Option Addr) (d : Nat), v26 = .int .i64 (k : Nat) ∧ k ≤ m.segs.length ∧ v4 = .slice B (4 + 4 * k) d ∧ Ext W0 wr ∧ wr.ownsRow W0.heap.size 112 1 (.slice B (4 + 4 * k) d) (4 + 4 * k) (u64s (mU m k))
set_option maxRecDepth 100000 in
set_option maxHeartbeats 4000000 in
theorem mrenc_any (m : Mf) (A : Option Addr) (c : Nat) (w : World) (hr : SgRd w A m.segs) (hl : m.segs.length ≤ 4398046510976) (hi : True) :
    Calls Tryz.prog 13 #[.agg (mfcells m A c)] w (MePost w (manE m)) := by
  have HR := Lib.hid hr
  have KV := Lib.hid fun W (hx : Ext w W) => mrvalid_any m A c W (hr.ext hx) hl
  cases hv : manB m with
  | false =>
    have hE := Lib.hid (manE_bad hv)
    rw [hv] at KV
    clear hv hr hl hi
    unfold mfcells at KV ⊢
    go_enter Tryz.func13, Tryz.ntmps13
    go_wp2_with (go_at_call 54; (with_reducible refine (KV.out _ exA).mono ?_); rintro e w1 ⟨rfl, hx1⟩)
    go_ret2
    rw [hE.out]
    exact ⟨none, 0, rfl, exA, World.ownsRow_nil _ _ _ _⟩
  | true =>
    have hok := man_ok hv
    have hsm := manU_small hok
    have hsg := (man_segs hok).2
    have hb := man_body hok
    have hgen := hok.gen
    have hnext := hok.next
    have hfl := hok.floor
    have hsn := hok.snap
    have hss := hok.snapSeq
    have hln := hok.len
    have hE := Lib.hid (manE_ok hv)
    rw [hv] at KV
    have HB := Lib.hid (mf_wid w m A c)
    have hx0 : Ext w (w.alloc (.cells (mfcells m A c) 25)) := ExtA (Ext.rfl' w)
    have HSg := Lib.hid hsg
    have HSm := Lib.hid hsm
    obtain ⟨n, hn⟩ : ∃ n, n = m.segs.length := ⟨_, rfl⟩
    have HNn := Lib.hid hn
    have hn6 : n ≤ 256 := by omega
    obtain ⟨G, hG⟩ : ∃ G : Nat, m.gen = (G : Int) := ⟨m.gen.toNat, by omega⟩
    obtain ⟨X, hX⟩ : ∃ X : Nat, m.next = (X : Int) := ⟨m.next.toNat, by omega⟩
    obtain ⟨Fl, hF⟩ : ∃ Fl : Nat, m.floor = (Fl : Int) := ⟨m.floor.toNat, by omega⟩
    obtain ⟨Sn, hSn⟩ : ∃ Sn : Nat, m.snap = (Sn : Int) := ⟨m.snap.toNat, by omega⟩
    obtain ⟨Ss, hSs⟩ : ∃ Ss : Nat, m.snapSeq = (Ss : Int) := ⟨m.snapSeq.toNat, by omega⟩
    have hU0 : Hid (mU m 0 = [X, Fl, Sn, Ss]) := Lib.hid (by unfold mU; rw [hX, hF, hSn, hSs]; rfl)
    have HGt : Hid (m.gen.toNat = G) := Lib.hid (by rw [hG]; rfl)
    unfold mfcells at KV HB hx0 ⊢
    rw [hG, hX, hF, hSn, hSs, ← hn] at KV HB hx0 ⊢
    rw [hG] at hgen
    rw [hX] at hnext
    rw [hF] at hfl
    rw [hSn, hX] at hsn
    rw [hSs] at hss
    rw [hSs] at hfl
    clear hv hr hl hi hok hsm hsg hG hX hF hSn hSs hn
    go_enter Tryz.func13, Tryz.ntmps13
    go_upto_region 3 with (go_at_call 54; (with_reducible refine (KV.out _ exA).mono ?_); rintro e w1 ⟨rfl, hx1⟩; have b2 := HB.out w1 exA)
    have hw1 : Ext w w1 := hx0.tr hx1
    have q0 : w1.cell? ⟨w.heap.size, 0, none⟩ = some (.int .i64 (G : Nat)) := b2.cell 0
    have q1 : w1.cell? ⟨w.heap.size, 1, none⟩ = some (.int .i64 (X : Nat)) := b2.cell 1
    have q2 : w1.cell? ⟨w.heap.size, 2, none⟩ = some (.int .i64 (Fl : Nat)) := b2.cell 2
    have q3 : w1.cell? ⟨w.heap.size, 3, none⟩ = some (.int .i64 (Sn : Nat)) := b2.cell 3
    have q4 : w1.cell? ⟨w.heap.size, 4, none⟩ = some (.int .i64 (Ss : Nat)) := b2.cell 4
    have q5 : w1.cell? ⟨w.heap.size, 5, none⟩ = some (.slice A n c) := b2.cell 5
    have q6 : w.heap.size < w1.heap.size := b2.lt
    go_wp2_with fail
    have hw1s : w.heap.size ≤ w1.heap.size := hw1.size
    have HX1 := Lib.hid hx1
    clear hx1 q0 q1 q2 q3 q4
    go_loopw [4, 5, 6, 26] (fun v4 _ _ v26 wr => MrR w1 m v4 v26 wr) (fun _ _ _ v26 _ => n - (intOf v26).toNat)
    case atStart => exact ⟨0, some ⟨w1.heap.size, 0, none⟩, 4, rfl, by omega, rfl, exA, by rw [hU0.out]; exact own_new w1 w1.heap.size #[.int .u64 (X : Nat), .int .u64 (Fl : Nat), .int .u64 (Sn : Nat), .int .u64 (Ss : Nat)] 112 4 (Nat.le_refl _) (by decide) rfl⟩
    case round =>
      obtain ⟨k, B, d, rfl, hk, rfl, hx, ho⟩ := hrel
      rw [← HNn.out] at hk
      have hsz : w1.heap.size ≤ wr.heap.size := hx.size
      have b8 := HB.out wr (HX1.out.tr hx)
      have f5 : wr.cell? ⟨w.heap.size, 5, none⟩ = some (.slice A n c) := b8.cell 5
      clear b8
      have HO := Lib.hid ho
      have HX := Lib.hid hx
      by_cases hlt : k < n
      · obtain ⟨b, o, rfl, hc⟩ := sg_at HR.out (show k < m.segs.length by rw [← HNn.out]; exact hlt)
        have Hc := Lib.hid (range_ext hc (hw1.tr hx))
        have hgb := HSg.out _ (List.getElem_mem (show k < m.segs.length by rw [← HNn.out]; exact hlt))
        have hst := mU_succ (m := m) (k := k) (by rw [← HNn.out]; exact hlt)
        have hal := alloc_sg
        clear hc ho
        generalize m.segs[k]'(by rw [← HNn.out]; exact hlt) = g at *
        obtain ⟨gn, gf, gc, go⟩ := g
        dsimp only at hgb
        obtain ⟨⟨n0, n1⟩, ⟨f0, f1⟩, ⟨c0, c1⟩, ⟨o0, o1⟩⟩ := hgb
        obtain ⟨gn, rfl⟩ := Int.eq_ofNat_of_zero_le n0
        obtain ⟨gf, rfl⟩ := Int.eq_ofNat_of_zero_le f0
        obtain ⟨gc, rfl⟩ := Int.eq_ofNat_of_zero_le c0
        obtain ⟨go, rfl⟩ := Int.eq_ofNat_of_zero_le o0
        unfold sgcells at Hc
        dsimp only at Hc
        have e0 : wr.cell? ⟨b, o + k * 4, none⟩ = some (.int .i64 (gn : Nat)) := Hc.out 0 _ rfl
        have e1 : wr.cell? ⟨b, o + k * 4 + 1, none⟩ = some (.int .i64 (gf : Nat)) := Hc.out 1 _ rfl
        have e2 : wr.cell? ⟨b, o + k * 4 + 2, none⟩ = some (.int .i64 (gc : Nat)) := Hc.out 2 _ rfl
        have e3 : wr.cell? ⟨b, o + k * 4 + 3, none⟩ = some (.int .i64 (go : Nat)) := Hc.out 3 _ rfl
        have HQ : Hid (u64s (mU m k) ++ u64s [gn, gf, gc, go] = u64s (mU m (k + 1))) := Lib.hid (by rw [u64s_app2, hst]; rfl)
        clear hst
        go_wp2_with (at_builtin; go_must (refine wpL_append rfl (.tmp 34) (.tmp 47) 113 rfl w1.heap.size 112 _ 1 8 Tryz.underlying113 el_u64 (.slice B (4 + 4 * k) d) _ _ rfl (own_ext exA HO.out) _ _ _ _ rfl (Rd.toN (rd_four64 gn gf gc go (by simp))) (one_u64s _) _ _ rfl HQ.out (by simp only [maxLen]; omega) (by omega) (by simp; omega) ?_); intro v1 w7 hown1 hg1 _; obtain ⟨B1, d1, rfl⟩ := own_slice hown1)
        go_roundw
        case rel => exact ⟨k + 1, B1, d1, by go_num, by have := HNn.out; omega, by rw [show 4 + 4 * (k + 1) = 4 + 4 * k + 4 by omega], Ext.grown (by exact exA) hg1 (fun r hr => own_lt HO.out r hr), by rw [show 4 + 4 * (k + 1) = 4 + 4 * k + 4 by omega]; exact hown1⟩
        case measure => simp [intOf]; omega
      · obtain rfl : k = n := by omega
        have hall : mU m k = manU m := by rw [HNn.out, mU_all]
        have hlen := manU_len m
        rw [← HNn.out] at hlen
        have ho2 := ho
        rw [hall] at ho2
        have R4 := Lib.hid (Rd.of_own ho2)
        have b9 := HB.out wr (HX1.out.tr hx)
        have q0 : wr.cell? ⟨w.heap.size, 0, none⟩ = some (.int .i64 (G : Nat)) := b9.cell 0
        have KE := Lib.hid fun W (h : Rd W B (4 + 4 * k) (u64s (manU m))) => rvsenc_any B (4 + 4 * k) d (manU m) W h (fun u hu => by have := HSm.out u hu; omega) (by omega)
        unfold NewB at KE
        have hw : Ext w wr := hw1.tr hx
        have hbe : (manE m).1 = fenc 4 G (vsenc (manU m)) ∧ (manE m).2 = 0 := by rw [hE.out, HGt.out]; exact ⟨rfl, rfl⟩
        have HBE := Lib.hid hbe
        generalize vsenc (manU m) = body at *
        have KF : Hid (∀ A2 c2 W, Ext w W → Rd W A2 body.length (u8s body) → Calls Tryz.prog 55 #[.agg #[.int .i64 4, .int .i64 (G : Nat), .slice A2 body.length c2]] W fun e w' => ∃ A1 c1, e = .returned (.tuple #[.slice A1 (fenc 4 G body).length c1, .int .i64 0]) ∧ Ext W w' ∧ w'.ownsRow W.heap.size 5 1 (.slice A1 (fenc 4 G body).length c1) (fenc 4 G body).length (u8s (fenc 4 G body))) := Lib.hid fun A2 c2 W hx h => rfenc_ok 4 G A2 body.length c2 body W h (by decide) (by decide) (by omega) (by omega)
        have mixed : Tryz.prog.follows Departure.mixedOrders = true := by kernel_rfl
        obtain ⟨L, hL⟩ : ∃ L, L = body.length := ⟨_, rfl⟩
        rw [← hL] at KE KF
        generalize fenc 4 G body = FB at *
        clear hall hlen ho2 hbe ho hL b9
        go_upto_region 10 with fail
        go_region_law_o (first
          | (refine step_callG rfl _ rfl 56 _ Tryz.func56 (by kernel_rfl) (by kernel_rfl) _ _ rfl #[.slice B (4 + 4 * k) d] (by simp [Act.eval, Act.put]) _ (KE.out _ (R4.out.ext (ExtD (Ext.rfl' wr)))) ?_; rintro e w5 ⟨A5, c5, rfl, hx5, ho5⟩; have z5 : Ext wr w5 := (ExtD (Ext.rfl' wr)).tr hx5; have z0 := z5.cell q0; refine ⟨_, rfl, ?_⟩)
          | (refine step_callG rfl _ rfl 55 _ Tryz.func55 (by kernel_rfl) (by kernel_rfl) _ _ rfl #[.agg #[.int .i64 4, .int .i64 (G : Nat), .slice A5 L c5]] (by simp [Act.eval, Act.put]) _ (KF.out A5 c5 _ (hw.tr z5) (rd_own ho5)) ?_; rintro e w6 ⟨A6, c6, rfl, hx6, ho6⟩; refine ⟨_, rfl, ?_⟩))
        all_goals
          go_wp2_with fail
          go_ret2
          refine ⟨A6, c6, ?_, exA, ?_⟩
          · rw [HBE.out.1, HBE.out.2]
            rfl
          · rw [HBE.out.1]
            exact own_base ho6 (Nat.le_trans hw.size z5.size)
end Go.Proofs.YtjajbbgebblalaaGreatDoor
