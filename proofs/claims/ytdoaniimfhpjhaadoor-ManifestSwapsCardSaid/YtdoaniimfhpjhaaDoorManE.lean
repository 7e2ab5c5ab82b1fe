/-
  The walks of manifest.Encode, Size, and the reference's Encode.
-/
/-
  The walk of the reference's Valid of manifests. (Written by wip/tools/gen_mrvalid.py.)
-/
/-
  The walks of the reference's Encode of manifests (written by wip/tools/gen_mrenc.py), and of manifest.Size.
-/
import Derived.Test.YtdoaniimfhpjhaaDoorManW
import Derived.Test.YtdoaniimfhpjhaaDoorManM
import Derived.Test.YtdoaniimfhpjhaaDoorFrmW
import Derived.Test.YtdoaniimfhpjhaaDoorVlsW
namespace Go.Proofs.YtdoaniimfhpjhaaDoor
open Go.RowKit
set_option linter.unusedVariables false
set_option linter.unusedSimpArgs false
theorem u64s_app2 (a b : List Nat) : u64s a ++ u64s b = u64s (a ++ b) := by simp [u64s]
theorem one_u64s (a : List Nat) : ∀ u ∈ u64s a, u.oneCell' = true := fun u hu => by simp [u64s] at hu; obtain ⟨x, _, rfl⟩ := hu; rfl
def mU (m : Mf) (k : Nat) : List Nat := [m.next.toNat, m.floor.toNat, m.snap.toNat, m.snapSeq.toNat] ++ (m.segs.take k).flatMap segU
theorem mU_len {m : Mf} {k : Nat} (h : k ≤ m.segs.length) : (mU m k).length = 4 + 4 * k := by
  unfold mU
  rw [List.length_append, segU_len, List.length_take, Nat.min_eq_left h]; rfl
theorem mU_succ {m : Mf} {k : Nat} (h : k < m.segs.length) : mU m (k + 1) = mU m k ++ segU m.segs[k] := by
  unfold mU
  rw [List.take_succ_eq_append_getElem h, List.flatMap_append, List.append_assoc]
  simp
theorem mU_all (m : Mf) : mU m m.segs.length = manU m := by
  unfold mU manU
  rw [List.take_length]
theorem rd_four64 {w : World} {g : Nat} (a b c d : Nat) (hg : w.heap.size = g) : Rd (w.alloc (.cells #[.int .u64 (a : Nat), .int .u64 (b : Nat), .int .u64 (c : Nat), .int .u64 (d : Nat)] 65)) (some ⟨g, 0, none⟩) 4 (u64s [a, b, c, d]) := by
  subst hg
  exact rd_new w #[.int .u64 (a : Nat), .int .u64 (b : Nat), .int .u64 (c : Nat), .int .u64 (d : Nat)] 65
/-- What Encode answers, in memory. -/
def MePost (w : World) (r : List UInt8 × Nat) (e : Ending) (w' : World) : Prop :=
  ∃ A c, e = .returned (.tuple #[.slice A r.1.length c, .int .i64 (r.2 : Nat)]) ∧ Ext w w' ∧ w'.ownsRow w.heap.size 5 1 (.slice A r.1.length c) r.1.length (u8s r.1)
def MeR (W0 : World) (m : Mf) (v4 v26 : Value) (wr : World) : Prop :=
  ∃ (k : Nat) (B : Option Addr) (d : Nat), v26 = .int .i64 (k : Nat) ∧ k ≤ m.segs.length ∧ v4 = .slice B (4 + 4 * k) d ∧ Ext W0 wr ∧ wr.ownsRow W0.heap.size 65 1 (.slice B (4 + 4 * k) d) (4 + 4 * k) (u64s (mU m k))
set_option maxRecDepth 100000 in
set_option maxHeartbeats 4000000 in
theorem menc_any (m : Mf) (A : Option Addr) (c : Nat) (w : World) (hN : Nib w) (hr : SgRd w A m.segs) (hl : m.segs.length ≤ 4398046510976) (hi : MI64 m.next) :
    Calls Tryd.prog 14 #[.agg (mfcells m A c)] w (MePost w (manE m)) := by
  have HR := Lib.hid hr
  have KV := Lib.hid fun W (hx : Ext w W) => mvalid_any m A c W (hr.ext hx) hl hi
  cases hv : manB m with
  | false =>
    have hE := Lib.hid (manE_bad hv)
    rw [hv] at KV
    clear hv hr hl hi hN
    unfold mfcells at KV ⊢
    go_enter Tryd.func14, Tryd.ntmps14
    go_wp2_with (go_at_call 8; (with_reducible refine (KV.out _ (by repeat (first | with_reducible exact Below.refl _ _ | with_reducible assumption | with_reducible refine ExtD ?_ | with_reducible refine ExtDN ?_ | with_reducible refine ExtA ?_ | (with_reducible refine ExtR ?_ ?_; (first | omega | (dsimp only; omega) | (simp; done) | (simp; omega))) | (with_reducible refine ExtS ?_ ?_; (first | omega | (dsimp only; omega) | (simp; done) | (simp; omega))) | with_reducible refine Ext.tr ?_ (by with_reducible assumption)))).mono ?_); rintro e w1 ⟨rfl, hx1⟩)
    go_ret2
    rw [hE.out]
    exact ⟨none, 0, rfl, (by repeat (first | with_reducible exact Below.refl _ _ | with_reducible assumption | with_reducible refine ExtD ?_ | with_reducible refine ExtDN ?_ | with_reducible refine ExtA ?_ | (with_reducible refine ExtR ?_ ?_; (first | omega | (dsimp only; omega) | (simp; done) | (simp; omega))) | (with_reducible refine ExtS ?_ ?_; (first | omega | (dsimp only; omega) | (simp; done) | (simp; omega))) | with_reducible refine Ext.tr ?_ (by with_reducible assumption))), World.ownsRow_nil _ _ _ _⟩
  | true =>
    have hok := man_ok hv
    have hsm := manU_small hok
    have hsg := (man_segs hok).2
    have hb := man_body hok
    have hgen := hok.gen
    have hnext := hok.next
    have hfl := hok.floor
    have hsn := hok.snap
    have hss := hok.snapSeq
    have hln := hok.len
    have hE := Lib.hid (manE_ok hv)
    rw [hv] at KV
    have HB := Lib.hid (mf_wid w m A c)
    have hx0 : Ext w (w.alloc (.cells (mfcells m A c) 24)) := ExtA (Ext.rfl' w)
    have HSg := Lib.hid hsg
    have HSm := Lib.hid hsm
    obtain ⟨n, hn⟩ : ∃ n, n = m.segs.length := ⟨_, rfl⟩
    have HNn := Lib.hid hn
    have hn6 : n ≤ 256 := by omega
    obtain ⟨G, hG⟩ : ∃ G : Nat, m.gen = (G : Int) := ⟨m.gen.toNat, by omega⟩
    obtain ⟨X, hX⟩ : ∃ X : Nat, m.next = (X : Int) := ⟨m.next.toNat, by omega⟩
    obtain ⟨Fl, hF⟩ : ∃ Fl : Nat, m.floor = (Fl : Int) := ⟨m.floor.toNat, by omega⟩
    obtain ⟨Sn, hSn⟩ : ∃ Sn : Nat, m.snap = (Sn : Int) := ⟨m.snap.toNat, by omega⟩
    obtain ⟨Ss, hSs⟩ : ∃ Ss : Nat, m.snapSeq = (Ss : Int) := ⟨m.snapSeq.toNat, by omega⟩
    have hU0 : Hid (mU m 0 = [X, Fl, Sn, Ss]) := Lib.hid (by unfold mU; rw [hX, hF, hSn, hSs]; rfl)
    have HGt : Hid (m.gen.toNat = G) := Lib.hid (by rw [hG]; rfl)
    unfold mfcells at KV HB hx0 ⊢
    rw [hG, hX, hF, hSn, hSs, ← hn] at KV HB hx0 ⊢
    rw [hG] at hgen
    rw [hX] at hnext
    rw [hF] at hfl
    rw [hSn, hX] at hsn
    rw [hSs] at hss
    rw [hSs] at hfl
    clear hv hr hl hi hok hsm hsg hG hX hF hSn hSs hn
    go_enter Tryd.func14, Tryd.ntmps14
    go_upto_region 3 with (go_at_call 8; (with_reducible refine (KV.out _ (by repeat (first | with_reducible exact Below.refl _ _ | with_reducible assumption | with_reducible refine ExtD ?_ | with_reducible refine ExtDN ?_ | with_reducible refine ExtA ?_ | (with_reducible refine ExtR ?_ ?_; (first | omega | (dsimp only; omega) | (simp; done) | (simp; omega))) | (with_reducible refine ExtS ?_ ?_; (first | omega | (dsimp only; omega) | (simp; done) | (simp; omega))) | with_reducible refine Ext.tr ?_ (by with_reducible assumption)))).mono ?_); rintro e w1 ⟨rfl, hx1⟩; have b2 := HB.out w1 (by repeat (first | with_reducible exact Below.refl _ _ | with_reducible assumption | with_reducible refine ExtD ?_ | with_reducible refine ExtDN ?_ | with_reducible refine ExtA ?_ | (with_reducible refine ExtR ?_ ?_; (first | omega | (dsimp only; omega) | (simp; done) | (simp; omega))) | (with_reducible refine ExtS ?_ ?_; (first | omega | (dsimp only; omega) | (simp; done) | (simp; omega))) | with_reducible refine Ext.tr ?_ (by with_reducible assumption))))
    have hw1 : Ext w w1 := hx0.tr hx1
    have q0 : w1.cell? ⟨w.heap.size, 0, none⟩ = some (.int .i64 (G : Nat)) := b2.cell 0
    have q1 : w1.cell? ⟨w.heap.size, 1, none⟩ = some (.int .i64 (X : Nat)) := b2.cell 1
    have q2 : w1.cell? ⟨w.heap.size, 2, none⟩ = some (.int .i64 (Fl : Nat)) := b2.cell 2
    have q3 : w1.cell? ⟨w.heap.size, 3, none⟩ = some (.int .i64 (Sn : Nat)) := b2.cell 3
    have q4 : w1.cell? ⟨w.heap.size, 4, none⟩ = some (.int .i64 (Ss : Nat)) := b2.cell 4
    have q5 : w1.cell? ⟨w.heap.size, 5, none⟩ = some (.slice A n c) := b2.cell 5
    have q6 : w.heap.size < w1.heap.size := b2.lt
    go_wp2_with fail
    have hw1s : w.heap.size ≤ w1.heap.size := hw1.size
    have HX1 := Lib.hid hx1
    clear hx1 q0 q1 q2 q3 q4
    go_loopw [4, 6, 26] (fun v4 _ v26 wr => MeR w1 m v4 v26 wr) (fun _ _ v26 _ => n - (intOf v26).toNat)
    case atStart => exact ⟨0, some ⟨w1.heap.size, 0, none⟩, 4, rfl, by omega, rfl, (by repeat (first | with_reducible exact Below.refl _ _ | with_reducible assumption | with_reducible refine ExtD ?_ | with_reducible refine ExtDN ?_ | with_reducible refine ExtA ?_ | (with_reducible refine ExtR ?_ ?_; (first | omega | (dsimp only; omega) | (simp; done) | (simp; omega))) | (with_reducible refine ExtS ?_ ?_; (first | omega | (dsimp only; omega) | (simp; done) | (simp; omega))) | with_reducible refine Ext.tr ?_ (by with_reducible assumption))), by rw [hU0.out]; exact own_new w1 w1.heap.size #[.int .u64 (X : Nat), .int .u64 (Fl : Nat), .int .u64 (Sn : Nat), .int .u64 (Ss : Nat)] 65 4 (Nat.le_refl _) (by decide) rfl⟩
    case round =>
      obtain ⟨k, B, d, rfl, hk, rfl, hx, ho⟩ := hrel
      rw [← HNn.out] at hk
      have hsz : w1.heap.size ≤ wr.heap.size := hx.size
      have HO := Lib.hid ho
      have HX := Lib.hid hx
      by_cases hlt : k < n
      · obtain ⟨b, o, rfl, hc⟩ := sg_at HR.out (show k < m.segs.length by rw [← HNn.out]; exact hlt)
        have Hc := Lib.hid (range_ext hc (hw1.tr hx))
        have hgb := HSg.out _ (List.getElem_mem (show k < m.segs.length by rw [← HNn.out]; exact hlt))
        have hst := mU_succ (m := m) (k := k) (by rw [← HNn.out]; exact hlt)
        have hal := alloc_sg
        clear hc ho
        generalize m.segs[k]'(by rw [← HNn.out]; exact hlt) = g at *
        obtain ⟨gn, gf, gc, go⟩ := g
        dsimp only at hgb
        obtain ⟨⟨n0, n1⟩, ⟨f0, f1⟩, ⟨c0, c1⟩, ⟨o0, o1⟩⟩ := hgb
        obtain ⟨gn, rfl⟩ := Int.eq_ofNat_of_zero_le n0
        obtain ⟨gf, rfl⟩ := Int.eq_ofNat_of_zero_le f0
        obtain ⟨gc, rfl⟩ := Int.eq_ofNat_of_zero_le c0
        obtain ⟨go, rfl⟩ := Int.eq_ofNat_of_zero_le o0
        unfold sgcells at Hc
        dsimp only at Hc
        have e0 : wr.cell? ⟨b, o + k * 4, none⟩ = some (.int .i64 (gn : Nat)) := Hc.out 0 _ rfl
        have e1 : wr.cell? ⟨b, o + k * 4 + 1, none⟩ = some (.int .i64 (gf : Nat)) := Hc.out 1 _ rfl
        have e2 : wr.cell? ⟨b, o + k * 4 + 2, none⟩ = some (.int .i64 (gc : Nat)) := Hc.out 2 _ rfl
        have e3 : wr.cell? ⟨b, o + k * 4 + 3, none⟩ = some (.int .i64 (go : Nat)) := Hc.out 3 _ rfl
        have HQ : Hid (u64s (mU m k) ++ u64s [gn, gf, gc, go] = u64s (mU m (k + 1))) := Lib.hid (by rw [u64s_app2, hst]; rfl)
        clear hst
        go_wp2_with (at_builtin; go_must (refine wpL_append rfl (.tmp 30) (.tmp 43) 66 rfl w1.heap.size 65 _ 1 8 Tryd.underlying66 el_u64 (.slice B (4 + 4 * k) d) _ _ rfl (own_ext (by repeat (first | with_reducible exact Below.refl _ _ | with_reducible assumption | with_reducible refine ExtD ?_ | with_reducible refine ExtDN ?_ | with_reducible refine ExtA ?_ | (with_reducible refine ExtR ?_ ?_; (first | omega | (dsimp only; omega) | (simp; done) | (simp; omega))) | (with_reducible refine ExtS ?_ ?_; (first | omega | (dsimp only; omega) | (simp; done) | (simp; omega))) | with_reducible refine Ext.tr ?_ (by with_reducible assumption))) HO.out) _ _ _ _ rfl (Rd.toN (rd_four64 gn gf gc go (by simp))) (one_u64s _) _ _ rfl HQ.out (by simp only [maxLen]; omega) (by omega) (by simp; omega) ?_); intro v1 w7 hown1 hg1 _; obtain ⟨B1, d1, rfl⟩ := own_slice hown1)
        go_roundw
        case rel => exact ⟨k + 1, B1, d1, by go_num, by have := HNn.out; omega, by rw [show 4 + 4 * (k + 1) = 4 + 4 * k + 4 by omega], Ext.grown (by exact (by repeat (first | with_reducible exact Below.refl _ _ | with_reducible assumption | with_reducible refine ExtD ?_ | with_reducible refine ExtDN ?_ | with_reducible refine ExtA ?_ | (with_reducible refine ExtR ?_ ?_; (first | omega | (dsimp only; omega) | (simp; done) | (simp; omega))) | (with_reducible refine ExtS ?_ ?_; (first | omega | (dsimp only; omega) | (simp; done) | (simp; omega))) | with_reducible refine Ext.tr ?_ (by with_reducible assumption)))) hg1 (fun r hr => own_lt HO.out r hr), by rw [show 4 + 4 * (k + 1) = 4 + 4 * k + 4 by omega]; exact hown1⟩
        case measure => simp [intOf]; omega
      · obtain rfl : k = n := by omega
        have hall : mU m k = manU m := by rw [HNn.out, mU_all]
        have hlen := manU_len m
        rw [← HNn.out] at hlen
        have ho2 := ho
        rw [hall] at ho2
        have R4 := Lib.hid (Rd.of_own ho2)
        have b9 := HB.out wr (HX1.out.tr hx)
        have q0 : wr.cell? ⟨w.heap.size, 0, none⟩ = some (.int .i64 (G : Nat)) := b9.cell 0
        have KE := Lib.hid fun W (h : Rd W B (4 + 4 * k) (u64s (manU m))) => vsenc_any B (4 + 4 * k) d (manU m) W h (fun u hu => by have := HSm.out u hu; omega) (by omega)
        unfold NewB at KE
        have hw : Ext w wr := hw1.tr hx
        have hbe : (manE m).1 = fenc 4 G (vsenc (manU m)) ∧ (manE m).2 = 0 := by rw [hE.out, HGt.out]; exact ⟨rfl, rfl⟩
        have HBE := Lib.hid hbe
        generalize vsenc (manU m) = body at *
        have KF : Hid (∀ A2 c2 W, Ext w W → Rd W A2 body.length (u8s body) → Calls Tryd.prog 30 #[.agg #[.int .i64 4, .int .i64 (G : Nat), .slice A2 body.length c2]] W fun e w' => ∃ A1 c1, e = .returned (.tuple #[.slice A1 (fenc 4 G body).length c1, .int .i64 0]) ∧ Ext W w' ∧ w'.ownsRow W.heap.size 5 1 (.slice A1 (fenc 4 G body).length c1) (fenc 4 G body).length (u8s (fenc 4 G body))) := Lib.hid fun A2 c2 W hx h => fenc_ok 4 G A2 body.length c2 body W (hN.ext hx) h (by decide) (by decide) (by omega) (by omega)
        have mixed : Tryd.prog.follows Departure.mixedOrders = true := by kernel_rfl
        obtain ⟨L, hL⟩ : ∃ L, L = body.length := ⟨_, rfl⟩
        rw [← hL] at KE KF
        generalize fenc 4 G body = FB at *
        clear hall hlen ho2 hbe ho hL b9
        go_upto_region 9 with fail
        go_region_law_o (first
          | (refine step_callG rfl _ rfl 31 _ Tryd.func31 (by kernel_rfl) (by kernel_rfl) _ _ rfl #[.slice B (4 + 4 * k) d] (by simp [Act.eval, Act.put]) _ (KE.out _ (R4.out.ext (ExtD (Ext.rfl' wr)))) ?_; rintro e w5 ⟨A5, c5, rfl, hx5, ho5⟩; have z5 : Ext wr w5 := (ExtD (Ext.rfl' wr)).tr hx5; have z0 := z5.cell q0; refine ⟨_, rfl, ?_⟩)
          | (refine step_callG rfl _ rfl 30 _ Tryd.func30 (by kernel_rfl) (by kernel_rfl) _ _ rfl #[.agg #[.int .i64 4, .int .i64 (G : Nat), .slice A5 L c5]] (by simp [Act.eval, Act.put]) _ (KF.out A5 c5 _ (hw.tr z5) (rd_own ho5)) ?_; rintro e w6 ⟨A6, c6, rfl, hx6, ho6⟩; refine ⟨_, rfl, ?_⟩))
        all_goals
          go_wp2_with fail
          go_ret2
          refine ⟨A6, c6, ?_, (by repeat (first | with_reducible exact Below.refl _ _ | with_reducible assumption | with_reducible refine ExtD ?_ | with_reducible refine ExtDN ?_ | with_reducible refine ExtA ?_ | (with_reducible refine ExtR ?_ ?_; (first | omega | (dsimp only; omega) | (simp; done) | (simp; omega))) | (with_reducible refine ExtS ?_ ?_; (first | omega | (dsimp only; omega) | (simp; done) | (simp; omega))) | with_reducible refine Ext.tr ?_ (by with_reducible assumption))), ?_⟩
          · rw [HBE.out.1, HBE.out.2]
            rfl
          · rw [HBE.out.1]
            exact own_base ho6 (Nat.le_trans hw.size z5.size)
end Go.Proofs.YtdoaniimfhpjhaaDoor

namespace Go.Proofs.YtdoaniimfhpjhaaDoor
open Go.RowKit
set_option linter.unusedVariables false
set_option linter.unusedSimpArgs false
def RvR (W0 : World) (m : Mf) (V : Bool) (v4 v92 : Value) (wr : World) : Prop :=
  ∃ (k : Nat) (F N : Int), v92 = .int .i64 (k : Nat) ∧ k < m.segs.length ∧ v4 = .int .i64 F ∧ 0 ≤ N ∧ (k = 0 → N = 0) ∧ (∀ j, k = j + 1 → ∃ h : j < m.segs.length, m.segs[j].num = N) ∧ 1 ≤ F ∧ F ≤ 1099511627777 + 512 * (k : Int) ∧ Ext W0 wr ∧ Hid (V = chainB m.next F N (m.segs.drop k))
end Go.Proofs.YtdoaniimfhpjhaaDoor

namespace Go.Proofs.YtdoaniimfhpjhaaDoor
open Go.RowKit
set_option linter.unusedVariables false
set_option linter.unusedSimpArgs false
set_option maxHeartbeats 1000000 in
theorem msize_any (m : Mf) (A : Option Addr) (c : Nat) (w : World) (hN : Nib w) (hr : SgRd w A m.segs) (hl : m.segs.length ≤ 4398046510976) (hi : MI64 m.next) :
    Calls Tryd.prog 16 #[.agg (mfcells m A c)] w fun e w' => e = .returned (.int .i64 ((manE m).1.length : Nat)) ∧ Ext w w' := by
  have KE := Lib.hid fun W (hx : Ext w W) => menc_any m A c W (hN.ext hx) (hr.ext hx) hl hi
  unfold MePost at KE
  generalize manE m = r at *
  obtain ⟨l, E⟩ := r
  dsimp only at KE
  clear hr hl hi
  unfold mfcells at KE ⊢
  go_enter Tryd.func16, Tryd.ntmps16
  go_wp2_with (go_at_call 14; (with_reducible refine (KE.out _ (by repeat (first | with_reducible exact Below.refl _ _ | with_reducible assumption | with_reducible refine ExtD ?_ | with_reducible refine ExtDN ?_ | with_reducible refine ExtA ?_ | (with_reducible refine ExtR ?_ ?_; (first | omega | (dsimp only; omega) | (simp; done) | (simp; omega))) | (with_reducible refine ExtS ?_ ?_; (first | omega | (dsimp only; omega) | (simp; done) | (simp; omega))) | with_reducible refine Ext.tr ?_ (by with_reducible assumption)))).mono ?_); rintro e w1 ⟨A1, c1, rfl, hx1, ho1⟩)
  go_ret
  exact ⟨rfl, (by repeat (first | with_reducible exact Below.refl _ _ | with_reducible assumption | with_reducible refine ExtD ?_ | with_reducible refine ExtDN ?_ | with_reducible refine ExtA ?_ | (with_reducible refine ExtR ?_ ?_; (first | omega | (dsimp only; omega) | (simp; done) | (simp; omega))) | (with_reducible refine ExtS ?_ ?_; (first | omega | (dsimp only; omega) | (simp; done) | (simp; omega))) | with_reducible refine Ext.tr ?_ (by with_reducible assumption)))⟩
def MrR (W0 : World) (m : Mf) (v4 v26 : Value) (wr : World) : Prop :=
  ∃ (k : Nat) (B : Option Addr) (d : Nat), v26 = .int .i64 (k : Nat) ∧ k ≤ m.segs.length ∧ v4 = .slice B (4 + 4 * k) d ∧ Ext W0 wr ∧ wr.ownsRow W0.heap.size 65 1 (.slice B (4 + 4 * k) d) (4 + 4 * k) (u64s (mU m k))
end Go.Proofs.YtdoaniimfhpjhaaDoor
