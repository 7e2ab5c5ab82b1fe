/-
  The walks of book.Encode, and of the document's Lay and Encode of books.
-/
import Derived.Test.YtjajbbgebblalaaGreatDoorShrT
import Derived.Test.YtjajbbgebblalaaGreatDoorBkA
import Derived.Test.YtjajbbgebblalaaGreatDoorSsW
import Derived.Test.YtjajbbgebblalaaGreatDoorFrmW
import Derived.Test.YtjajbbgebblalaaGreatDoorCanE
import Derived.Test.YtjajbbgebblalaaGreatDoorVarW
namespace Go.Proofs.YtjajbbgebblalaaGreatDoor
open Go.RowKit
set_option linter.unusedVariables false
set_option linter.unusedSimpArgs false
def BkPost (w : World) (r : List UInt8 × Nat) (e : Ending) (w' : World) : Prop :=
  ∃ A c, e = .returned (.tuple #[.slice A r.1.length c, .int .i64 (r.2 : Nat)]) ∧ Ext w w' ∧ w'.ownsRow w.heap.size 5 1 (.slice A r.1.length c) r.1.length (u8s r.1)
theorem bk_bad {w w' : World} {r : List UInt8 × Nat} {e : Ending} {E : Nat} (h : r = ([], E)) (he : e = .returned (.tuple #[.slice none 0 0, .int .i64 (E : Nat)])) (hx : Ext w w') : BkPost w r e w' := by
  subst h
  exact ⟨none, 0, he, hx, World.ownsRow_nil _ _ _ _⟩
/-- The bytes behind k states. -/
def preB (nu sq : Nat) (ss : List St) (k : Nat) : List UInt8 := layF ((6, nu, venc sq) :: (ss.take k).map stF)
theorem layF_app (a b : List Frm) : layF (a ++ b) = layF a ++ layF b := List.flatMap_append
theorem preB_succ {nu sq : Nat} {ss : List St} {k : Nat} {s : St} (h : ss[k]? = some s) : preB nu sq ss (k + 1) = preB nu sq ss k ++ frB (stF s) := by
  unfold preB
  rw [List.take_add_one, h, List.map_append, ← List.cons_append, layF_app]
  simp [layF]
theorem preB_all {nu sq : Nat} {ss : List St} {k : Nat} (h : ss.length = k) : layF (bkF nu sq ss) = preB nu sq ss k ++ frB (7, nu, venc ss.length) := by
  unfold preB bkF
  rw [List.take_of_length_le (by omega), ← List.cons_append, layF_app]
  simp [layF]
theorem layF_le {K : Nat} {fs : List Frm} (h : ∀ f ∈ fs, f.2.2.length ≤ K) : (layF fs).length ≤ (20 + K) * fs.length := by
  induction fs with
  | nil => simp [layF]
  | cons f r ih =>
    have e : layF (f :: r) = frB f ++ layF r := rfl
    have h1 := h f (List.mem_cons_self ..)
    have h2 := ih fun g hg => h g (List.mem_cons_of_mem _ hg)
    rw [e, List.length_append, frB_len, List.length_cons, Nat.mul_succ]
    omega
theorem preB_len {nu sq : Nat} {ss : List St} (h : bookB 0 ss = true) (hs : sq ≤ 1099511627776) (k : Nat) : (preB nu sq ss k).length ≤ 440 * (ss.length + 1) := by
  unfold preB
  have h1 := layF_le (K := 420) (fs := (6, nu, venc sq) :: (ss.take k).map stF) (fun f hf => by
    rcases List.mem_cons.1 hf with rfl | hf
    · show (venc sq).length ≤ _; have := venc_len10 sq (by omega); omega
    · obtain ⟨s, hs, rfl⟩ := List.mem_map.1 hf
      exact encR_len (valid_iff.1 (book_mem h s (List.mem_of_mem_take hs)).2.2))
  refine Nat.le_trans h1 ?_
  simp only [List.length_cons, List.length_map, List.length_take]
  have : min k ss.length ≤ ss.length := Nat.min_le_right _ _
  omega
theorem canE_pos {s : St} (h : validB s = true) : (canE s).1 = encR (refF s) ∧ (canE s).2 = 0 := by rw [canE_ok h]; exact ⟨rfl, rfl⟩
/-- What the laying of a frame answers. -/
def FePost (w : World) (m : Nat) (b : List UInt8) (e : Ending) (w' : World) : Prop := ∃ A1 c1, e = .returned (.tuple #[.slice A1 m c1, .int .i64 0]) ∧ Ext w w' ∧ w'.ownsRow w.heap.size 5 1 (.slice A1 m c1) m (u8s b)
theorem fenc_lit (K S : Int) (k0 s : Nat) (hK : K = (k0 : Nat)) (hS : S = (s : Nat)) (A : Option Addr) (n c : Nat) (l : List UInt8) (m : Nat) (b : List UInt8) (hb : b = fenc k0 s l) (hm : m = b.length) (w : World) (hN : Nib w) (hr : Rd w A n (u8s l)) (hk1 : 1 ≤ k0) (hk2 : k0 ≤ 7) (hs : s ≤ 1099511627776) (hn : n ≤ 16384) :
    Calls Tryz.prog 80 #[.agg #[.int .i64 K, .int .i64 S, .slice A n c]] w (FePost w m b) := by
  subst hK hS hm hb
  exact fenc_ok k0 s A n c l w hN hr hk1 hk2 hs hn
theorem rfenc_lit (K S : Int) (k0 s : Nat) (hK : K = (k0 : Nat)) (hS : S = (s : Nat)) (A : Option Addr) (n c : Nat) (l : List UInt8) (m : Nat) (b : List UInt8) (hb : b = fenc k0 s l) (hm : m = b.length) (w : World) (hr : Rd w A n (u8s l)) (hk1 : 1 ≤ k0) (hk2 : k0 ≤ 7) (hs : s ≤ 1099511627776) (hn : n ≤ 16384) :
    Calls Tryz.prog 55 #[.agg #[.int .i64 K, .int .i64 S, .slice A n c]] w (FePost w m b) := by
  subst hK hS hm hb
  exact rfenc_ok k0 s A n c l w hr hk1 hk2 hs hn
def BeR (w : World) (nu sq : Nat) (ss : List St) (c8 c46 : Value) (wr : World) : Prop :=
  ∃ (k : Nat) (B : Option Addr) (m d : Nat), c46 = .int .i64 (k : Nat) ∧ k ≤ ss.length ∧ m = (preB nu sq ss k).length ∧ c8 = .slice B m d ∧ Ext w wr ∧ wr.ownsRow w.heap.size 5 1 (.slice B m d) m (u8s (preB nu sq ss k))
set_option maxRecDepth 100000 in
set_option maxHeartbeats 8000000 in
theorem benc_any (num seq : Int) (ss : List St) (A : Option Addr) (n c : Nat) (w : World) (hN : Nib w) (hr : SsRd w A n ss) (hn : n ≤ 1048576) (hs : SsSm ss) :
    Calls Tryz.prog 28 #[.int .i64 num, .int .i64 seq, .slice A n c] w (BkPost w (bkE num seq ss)) := by
  have hlen := hr.len
  by_cases h1 : num < 1 ∨ 999999 < num ∨ seq < 1 ∨ 1099511627776 < seq
  · have HE := Lib.hid (show bkE num seq ss = ([], 1) by unfold bkE; rw [if_pos h1])
    by_cases g1 : num < 1
    · have d1 : decide (num < 1) = true := by simpa using g1
      clear h1 g1 hr hs hN
      go_enter Tryz.func28, Tryz.ntmps28
      go_wp2_with fail
      go_ret2
      exact bk_bad HE.out rfl exA
    · have d1 : decide (num < 1) = false := by simpa using g1
      by_cases g2 : 999999 < num
      · have d2 : decide (999999 < num) = true := by simpa using g2
        clear h1 g1 g2 hr hs hN
        go_enter Tryz.func28, Tryz.ntmps28
        go_wp2_with fail
        go_ret2
        exact bk_bad HE.out rfl exA
      · have d2 : decide (999999 < num) = false := by simpa using g2
        by_cases g3 : seq < 1
        · have d3 : decide (seq < 1) = true := by simpa using g3
          clear h1 g1 g2 g3 hr hs hN
          go_enter Tryz.func28, Tryz.ntmps28
          go_wp2_with fail
          go_ret2
          exact bk_bad HE.out rfl exA
        · have d3 : decide (seq < 1) = false := by simpa using g3
          have d4 : decide (1099511627776 < seq) = true := by simp; omega
          clear h1 g1 g2 g3 hr hs hN
          go_enter Tryz.func28, Tryz.ntmps28
          go_wp2_with fail
          go_ret2
          exact bk_bad HE.out rfl exA
  · have d1 : decide (num < 1) = false := by simp; omega
    have d2 : decide (999999 < num) = false := by simp; omega
    have d3 : decide (seq < 1) = false := by simp; omega
    have d4 : decide (1099511627776 < seq) = false := by simp; omega
    have KV := Lib.hid fun W (hx : Ext w W) => bvalid_any ss A n c W (hr.ext hx) (by omega) hs
    cases hv : bookB 0 ss with
    | false =>
      have HE := Lib.hid (show bkE num seq ss = ([], 40) by unfold bkE; rw [if_neg h1, if_pos hv])
      rw [hv] at KV
      clear h1 hr hs hN hv
      go_enter Tryz.func28, Tryz.ntmps28
      go_wp2_with (go_at_call 79; (with_reducible refine (KV.out _ exA).mono ?_); rintro e w1 ⟨rfl, hx1⟩)
      go_ret2
      exact bk_bad HE.out rfl hx1
    | true =>
      obtain ⟨nu, rfl⟩ : ∃ nu : Nat, num = (nu : Int) := ⟨num.toNat, by omega⟩
      obtain ⟨sq, rfl⟩ : ∃ sq : Nat, seq = (sq : Int) := ⟨seq.toNat, by omega⟩
      have hnu : 1 ≤ nu ∧ nu ≤ 999999 := by omega
      have hsq : 1 ≤ sq ∧ sq ≤ 1099511627776 := by omega
      have HE := Lib.hid (bkE_ok hnu.1 hnu.2 hsq.1 hsq.2 hv)
      have Hpl := Lib.hid fun k => preB_len (nu := nu) (sq := sq) hv hsq.2 k
      rw [hv] at KV
      have hv1 := venc_len10 sq (by omega)
      have hv2 := venc_len10 n (by omega)
      have KV1 := Lib.hid fun W => venc_any sq W (by omega)
      have KV2 := Lib.hid fun W => venc_any n W (by omega)
      unfold NewB at KV1 KV2
      obtain ⟨l1, hl1⟩ : ∃ l1, l1 = (venc sq).length := ⟨_, rfl⟩
      obtain ⟨l2, hl2⟩ : ∃ l2, l2 = (venc n).length := ⟨_, rfl⟩
      obtain ⟨b6, hb6⟩ : ∃ b6, b6 = fenc 6 nu (venc sq) := ⟨_, rfl⟩
      obtain ⟨b7, hb7⟩ : ∃ b7, b7 = fenc 7 nu (venc n) := ⟨_, rfl⟩
      obtain ⟨m6, hm6⟩ : ∃ m6, m6 = b6.length := ⟨_, rfl⟩
      obtain ⟨m7, hm7⟩ : ∃ m7, m7 = b7.length := ⟨_, rfl⟩
      have KE6 := Lib.hid fun A1 c1 W (hx : Ext w W) (hr : Rd W A1 l1 (u8s (venc sq))) => fenc_lit 6 (nu : Int) 6 nu rfl rfl A1 l1 c1 (venc sq) m6 b6 hb6 hm6 W (hN.ext hx) hr (by decide) (by decide) (by omega) (by omega)
      have KE7 := Lib.hid fun A1 c1 W (hx : Ext w W) (hr : Rd W A1 l2 (u8s (venc n))) => fenc_lit 7 (nu : Int) 7 nu rfl rfl A1 l2 c1 (venc n) m7 b7 hb7 hm7 W (hN.ext hx) hr (by decide) (by decide) (by omega) (by omega)
      unfold FePost at KE6 KE7
      rw [← hl1] at KV1
      rw [← hl2] at KV2
      have h7le : m7 ≤ 30 := by rw [hm7, hb7, fenc_len]; omega
      have hp0 : preB nu sq ss 0 = b6 := by rw [hb6]; simp [preB, layF, frB]
      have hpn : layF (bkF nu sq ss) = preB nu sq ss n ++ b7 := by rw [preB_all hlen, hb7, hlen]; rfl
      have Hp0 := Lib.hid hp0
      have Hpn := Lib.hid hpn
      have Hm6 := Lib.hid hm6
      have Hm7 := Lib.hid hm7
      have Hbm := Lib.hid (book_mem hv)
      have cu1 : IntKind.u64.wrap (sq : Int) = (sq : Int) := by rw [IntKind.wrap_u64]; omega
      have cu2 : IntKind.u64.wrap (n : Int) = (n : Int) := by rw [IntKind.wrap_u64]; omega
      have HR := Lib.hid hr
      have HN := Lib.hid hN
      have HSm := Lib.hid hs
      have Hlen := Lib.hid hlen
      have hal := alloc_st0
      clear hl1 hl2 hb6 hb7 hm6 hm7 hp0 hpn hr hN hs hlen hv h1
      go_enter Tryz.func28, Tryz.ntmps28
      go_wp2_with (first
        | (go_at_call 79; (with_reducible refine (KV.out _ exA).mono ?_); rintro e w1 ⟨rfl, hx1⟩)
        | (go_at_call 81; (with_reducible refine (KV1.out _).mono ?_); rintro e w2 ⟨A2, c2, rfl, hx2, ho2⟩)
        | (go_at_call 80; (with_reducible refine (KE6.out _ _ _ (hx1.tr hx2) (rd_own ho2)).mono ?_); rintro e w3 ⟨A3, c3, rfl, hx3, ho3⟩))
      have hX3 : Ext w w3 := (hx1.tr hx2).tr hx3
      have ho3' := own_base ho3 (show w.heap.size ≤ w2.heap.size from (hx1.tr hx2).size)
      go_loopw [8, 46] (fun c8 c46 wr => BeR w nu sq ss c8 c46 wr) (fun _ c46 _ => n - (intOf c46).toNat)
      case atStart => exact ⟨0, A3, m6, c3, rfl, Nat.zero_le _, by rw [Hp0.out]; exact Hm6.out, rfl, hX3, by rw [Hp0.out]; exact ho3'⟩
      case round =>
        obtain ⟨k, B, mk, dk, rfl, hk, hmk, rfl, hx, ho⟩ := hrel
        rw [Hlen.out] at hk
        have hml : mk ≤ 440 * (n + 1) := by rw [hmk, ← Hlen.out]; exact Hpl.out k
        have Ho := Lib.hid ho
        have Hmk := Lib.hid hmk
        clear hx1 hx2 hx3 ho2 ho3 ho3' hX3 hmk ho
        by_cases hlt : k < n
        · obtain ⟨b, o, s, As, cs, hsk, rfl, hc, hls⟩ := ss_at (HR.out.ext hx) hlt
          have hsm := HSm.out s (List.mem_of_getElem? hsk)
          have hsv := (Hbm.out s (List.mem_of_getElem? hsk)).2.2
          have KC := Lib.hid fun W (hx2 : Ext wr W) => cenc_any s As cs W (LsRd.ext hls hx2) (by have := hsm.1; omega) hsm.2
          unfold CanEPost at KC
          obtain ⟨he1, he2⟩ := canE_pos hsv
          rw [he1, he2] at KC
          have hol := (valid_iff.1 hsv).order
          have hrl := encR_len (valid_iff.1 hsv)
          have hsf : stF s = (5, s.order.toNat, encR (refF s)) := rfl
          have hps := preB_succ (nu := nu) (sq := sq) hsk
          obtain ⟨rec, hrec⟩ : ∃ rec, rec = encR (refF s) := ⟨_, rfl⟩
          obtain ⟨lr, hlr⟩ : ∃ lr, lr = rec.length := ⟨_, rfl⟩
          obtain ⟨on, hon⟩ : ∃ on : Nat, s.order = (on : Int) := ⟨s.order.toNat, by omega⟩
          obtain ⟨bf, hbf⟩ : ∃ bf, bf = fenc 5 on rec := ⟨_, rfl⟩
          obtain ⟨mf, hmf⟩ : ∃ mf, mf = bf.length := ⟨_, rfl⟩
          rw [← hrec] at KC hrl hsf
          rw [← hlr] at KC hrl
          rw [show s.order.toNat = on by omega] at hsf
          have hfr : frB (stF s) = bf := by rw [hsf, hbf]; rfl
          rw [hfr] at hps
          have hmfl : mf ≤ 440 := by rw [hmf, hbf, fenc_len]; omega
          have KF := Lib.hid fun A1 c1 W (hx2 : Ext wr W) (hr : Rd W A1 lr (u8s rec)) => fenc_lit 5 (on : Int) 5 on rfl rfl A1 lr c1 rec mf bf hbf hmf W (HN.out.ext (hx.tr hx2)) hr (by decide) (by decide) (by omega) (by omega)
          unfold FePost at KF
          have Hps := Lib.hid hps
          have Hmf := Lib.hid hmf
          obtain ⟨order, status, prior, cur, tax, ls, paid, refunded, events, refused, stamp, who⟩ := s
          dsimp only at hon
          subst hon
          obtain ⟨n2, hn2⟩ : ∃ n2, n2 = ls.length := ⟨_, rfl⟩
          have Hc : Hid (wr.rangeAt b (o + k * 12) (#[.int .i64 (on : Nat), .int .i64 status, .int .i64 prior, .int .i64 cur, .int .i64 tax, .slice As n2 cs, .int .i64 paid, .int .i64 refunded, .int .i64 events, .int .i64 refused, .int .i64 stamp, .string who] : Array Value).toList) := Lib.hid (by rw [hn2]; exact hc)
          unfold stcells at KC
          dsimp only at KC
          rw [← hn2] at KC
          have Hx := Lib.hid hx
          clear hn2 hc hls hsm hsk hsv he1 he2 hol hsf hps hrec hlr hbf hmf hfr hx
          go_wp2_with (first
            | (change wpList _ _ _ (⟨some 49, _, _, _, _, _⟩ :: _) _ _; refine wp_load_ss rfl (.tmp 48) rfl b (o + k * 12) rfl #[.int .i64 (on : Nat), .int .i64 status, .int .i64 prior, .int .i64 cur, .int .i64 tax, .slice As n2 cs, .int .i64 paid, .int .i64 refunded, .int .i64 events, .int .i64 refused, .int .i64 stamp, .string who] rfl Hc.out ?_)
            | (change wpList _ _ _ (⟨none, .store _ (.tmp 11) _, _, _, _, _⟩ :: _) _ _; refine wpL_store_new rfl 77 (.tmp 11) (.tmp 49) rfl wr.heap.size 77 #[.int .i64 0, .int .i64 0, .int .i64 0, .int .i64 0, .int .i64 0, .slice none 0 0, .int .i64 0, .int .i64 0, .int .i64 0, .int .i64 0, .int .i64 0, .string ⟨#[]⟩] #[.int .i64 (on : Nat), .int .i64 status, .int .i64 prior, .int .i64 cur, .int .i64 tax, .slice As n2 cs, .int .i64 paid, .int .i64 refunded, .int .i64 events, .int .i64 refused, .int .i64 stamp, .string who] rfl rfl rfl rfl (st_one' _ _ _ _ _ _ _ _ _ _ _ _ _ _) 12 ss_wide rfl ?_)
            | (change wpList _ _ _ (⟨some 51, _, _, _, _, _⟩ :: _) _ _; refine wpL_load_row (o := ⟨some 51, _, _, _, _, _⟩) rfl 77 (.tmp 11) rfl wr.heap.size 77 _ 12 rfl (BlkN rfl) ss_wide (st_size' _ _ _ _ _ _ _ _ _ _ _ _ _ _) ?_)
            | (go_at_call 82; (with_reducible refine (KC.out _ exA).mono ?_); rintro e w1 ⟨A1, c1, rfl, hx1, ho1⟩; have hX1 : Ext wr w1 := (ExtA (Ext.rfl' wr)).tr hx1; have f0 : w1.cell? ⟨wr.heap.size, 0, none⟩ = some (.int .i64 (on : Nat)) := (BlkE (BlkN rfl) hx1).cell 0)
            | (go_at_call 80; (with_reducible refine (KF.out _ _ _ hX1 (rd_own ho1)).mono ?_); rintro e w2 ⟨A2, c2, rfl, hx2, ho2⟩)
            | (change wpList _ _ _ (⟨some 65, _, _, _, _, _⟩ :: _) _ _; refine wpB_append rfl (.tmp 63) (.tmp 64) rfl w rfl (own_ext (hX1.tr hx2) Ho.out) (Hx.out.tr (hX1.tr hx2)) rfl (rd_own ho2) (by rw [← Hmk.out, ← Hmf.out]; omega) ?_; intro A3 n3 c3 w3 hx3 hn3 hown3 hk3 hg3))
          go_roundw
          case rel => exact ⟨k + 1, A3, n3, c3, by go_num, by rw [Hlen.out]; omega, by rw [Hps.out]; exact hn3.out, rfl, hx3, by rw [Hps.out]; exact hown3⟩
          case measure => simp [intOf]; omega
        · obtain rfl : k = n := by omega
          go_wp2_with (first
            | (go_at_call 81; (with_reducible refine (KV2.out _).mono ?_); rintro e w2 ⟨A2, c2, rfl, hx2, ho2⟩)
            | (go_at_call 80; (with_reducible refine (KE7.out _ _ _ (hx.tr hx2) (rd_own ho2)).mono ?_); rintro e w3 ⟨A3, c3, rfl, hx3, ho3⟩)
            | (change wpList _ _ _ (⟨some 79, _, _, _, _, _⟩ :: _) _ _; refine wpB_append rfl (.tmp 77) (.tmp 78) rfl w rfl (own_ext (hx2.tr hx3) Ho.out) (hx.tr (hx2.tr hx3)) rfl (rd_own ho3) (by rw [← Hmk.out, ← Hm7.out]; omega) ?_; intro A4 n4 c4 w4 hx4 hn4 hown4 hk4 hg4))
          have hn4' := hn4.out
          rw [← Hpn.out] at hn4' hown4
          go_ret2
          rw [HE.out]
          exact ⟨A4, c4, by rw [hn4']; rfl, hx4, by rw [← hn4']; exact hown4⟩
theorem layF_take {fs : List Frm} {k : Nat} {f : Frm} (h : fs[k]? = some f) : layF (fs.take (k + 1)) = layF (fs.take k) ++ frB f := by
  rw [List.take_add_one, h, layF_app]
  simp [layF]
theorem layF_part (fs : List Frm) (k : Nat) : (layF (fs.take k)).length ≤ (layF fs).length := by
  have h : fs = fs.take k ++ fs.drop k := (List.take_append_drop k fs).symm
  have e := congrArg (fun x => (layF x).length) h
  simp only [layF_app, List.length_append] at e
  omega
theorem bkE_le (num seq : Int) (ss : List St) : (bkE num seq ss).1.length ≤ 440 * (ss.length + 2) := by
  unfold bkE
  split
  · exact Nat.zero_le _
  rename_i h1
  split
  · exact Nat.zero_le _
  rename_i h2
  have hv : bookB 0 ss = true := by simpa using h2
  have hl := book_len hv (by omega) (by omega)
  refine Nat.le_trans (layF_le (K := 420) (fun f hf => ?_)) (by simp [bkF])
  unfold bkF at hf
  rcases List.mem_cons.1 hf with rfl | hf
  · show (venc _).length ≤ _; have := venc_len10 seq.toNat (by omega); omega
  rcases List.mem_append.1 hf with hf | hf
  · obtain ⟨s, hs, rfl⟩ := List.mem_map.1 hf
    exact encR_len (valid_iff.1 (book_mem hv s hs).2.2)
  · rw [List.mem_singleton.1 hf]
    show (venc _).length ≤ _; have := venc_len10 ss.length (by omega); omega
def LyR (w : World) (fs : List Frm) (c3 c10 : Value) (wr : World) : Prop :=
  ∃ (k : Nat) (B : Option Addr) (m d : Nat), c10 = .int .i64 (k : Nat) ∧ k ≤ fs.length ∧ m = (layF (fs.take k)).length ∧ c3 = .slice B m d ∧ Ext w wr ∧ wr.ownsRow w.heap.size 5 1 (.slice B m d) m (u8s (layF (fs.take k)))
set_option maxRecDepth 100000 in
set_option maxHeartbeats 4000000 in
theorem lay_any (fs : List Frm) (A : Option Addr) (n c : Nat) (w : World) (hr : FmRd w A n fs) (hok : ∀ f ∈ fs, FrOk f) (hb : (layF fs).length ≤ 140737488355328) (hn : n ≤ 4611686018427387904) :
    Calls Tryz.prog 78 #[.slice A n c] w (NewB w (layF fs)) := by
  have hlen := hr.len
  have Hlen := Lib.hid hlen
  have HR := Lib.hid hr
  have Hok := Lib.hid hok
  have Hb := Lib.hid hb
  clear hlen hr hok hb
  go_enter Tryz.func78, Tryz.ntmps78
  go_wp2_with fail
  go_loopw [3, 10] (fun c3 c10 wr => LyR w fs c3 c10 wr) (fun _ c10 _ => n - (intOf c10).toNat)
  case atStart => exact ⟨0, some ⟨w.heap.size, 0, none⟩, 0, 0, rfl, by omega, rfl, rfl, exA, own_empty w⟩
  case round =>
    obtain ⟨k, B, mk, dk, rfl, hk, hmk, rfl, hx, ho⟩ := hrel
    rw [Hlen.out] at hk
    by_cases hlt : k < n
    · obtain ⟨b, o, f, Af, cf, hfk, rfl, hc, hrf⟩ := fm_at (HR.out.ext hx) hlt
      have hfo := Hok.out f (List.mem_of_getElem? hfk)
      have htk := layF_take hfk
      have hpl := layF_part fs (k + 1)
      have hbb := Hb.out
      obtain ⟨k0, s0, body⟩ := f
      obtain ⟨bf, hbf⟩ : ∃ bf, bf = fenc k0 s0 body := ⟨_, rfl⟩
      obtain ⟨mf, hmf⟩ : ∃ mf, mf = bf.length := ⟨_, rfl⟩
      obtain ⟨lb, hlb⟩ : ∃ lb, lb = body.length := ⟨_, rfl⟩
      have hfe : frB (k0, s0, body) = bf := by rw [hbf]; rfl
      rw [hfe] at htk
      dsimp only at hrf
      rw [← hlb] at hrf
      have hfo4 := hfo.2.2.2
      dsimp only at hfo4
      have KF := Lib.hid fun W (hx2 : Ext wr W) => rfenc_lit (k0 : Int) (s0 : Int) k0 s0 rfl rfl Af lb cf body mf bf hbf hmf W (hrf.ext hx2) hfo.1 hfo.2.1 hfo.2.2.1 (by omega)
      unfold FePost at KF
      rw [htk, List.length_append] at hpl
      have hc0 : wr.rangeAt b (o + k * 3) (#[.int .i64 (k0 : Nat), .int .i64 (s0 : Nat), .slice Af lb cf] : Array Value).toList := by rw [hlb]; exact hc
      have Hc := Lib.hid hc0
      have Htk := Lib.hid htk
      have Hmk := Lib.hid hmk
      have Hmf := Lib.hid hmf
      have Hx := Lib.hid hx
      have Ho := Lib.hid ho
      clear hc hc0 htk hmk hmf hbf hlb hfe hrf hfo hfk hx ho hfo4
      go_wp2_with (first
        | (change wpList _ _ _ (⟨some 17, _, _, _, _, _⟩ :: _) _ _; refine wp_load_fm rfl (.tmp 16) rfl b (o + k * 3) rfl #[.int .i64 (k0 : Nat), .int .i64 (s0 : Nat), .slice Af lb cf] rfl Hc.out ?_)
        | (go_at_call 55; (with_reducible refine (KF.out _ exA).mono ?_); rintro e w1 ⟨A1, c1, rfl, hx1, ho1⟩)
        | (change wpList _ _ _ (⟨some 23, _, _, _, _, _⟩ :: _) _ _; refine wpB_append rfl (.tmp 21) (.tmp 22) rfl w rfl (own_ext hx1 Ho.out) (Hx.out.tr hx1) rfl (rd_own ho1) (by omega) ?_; intro A3 n3 c3 w3 hx3 hn3 hown3 hk3 hg3))
      go_roundw
      case rel => exact ⟨k + 1, A3, n3, c3, by go_num, by rw [Hlen.out]; omega, by rw [Htk.out]; exact hn3.out, rfl, hx3, by rw [Htk.out]; exact hown3⟩
      case measure => simp [intOf]; omega
    · obtain rfl : k = n := by omega
      have htk : fs.take k = fs := List.take_of_length_le (by rw [Hlen.out]; omega)
      rw [htk] at hmk ho
      go_wp2_with fail
      go_ret
      exact ⟨B, dk, by rw [hmk]; rfl, hx, by rw [← hmk]; exact ho⟩
def RbR (w : World) (nu sq : Nat) (ss : List St) (c8 c37 : Value) (wr : World) : Prop :=
  ∃ (k : Nat) (A : Option Addr) (c : Nat) (hs : List HFm), c37 = .int .i64 (k : Nat) ∧ k ≤ ss.length ∧ c8 = .slice A (k + 1) c ∧ hs.map (·.1) = (6, nu, venc sq) :: (ss.take k).map stF ∧ Ext w wr ∧ OwnFm wr w.heap.size A (k + 1) c hs
set_option maxRecDepth 100000 in
set_option maxHeartbeats 8000000 in
theorem rbenc_any (num seq : Int) (ss : List St) (A : Option Addr) (n c : Nat) (w : World) (hr : SsRd w A n ss) (hn : n ≤ 1048576) (hs : SsSm ss) :
    Calls Tryz.prog 27 #[.int .i64 num, .int .i64 seq, .slice A n c] w (BkPost w (bkE num seq ss)) := by
  have hlen := hr.len
  by_cases h1 : num < 1 ∨ 999999 < num ∨ seq < 1 ∨ 1099511627776 < seq
  · have HE := Lib.hid (show bkE num seq ss = ([], 1) by unfold bkE; rw [if_pos h1])
    by_cases g1 : num < 1
    · have d1 : decide (num < 1) = true := by simpa using g1
      clear h1 g1 hr hs
      go_enter Tryz.func27, Tryz.ntmps27
      go_wp2_with fail
      go_ret2
      exact bk_bad HE.out rfl exA
    · have d1 : decide (num < 1) = false := by simpa using g1
      by_cases g2 : 999999 < num
      · have d2 : decide (999999 < num) = true := by simpa using g2
        clear h1 g1 g2 hr hs
        go_enter Tryz.func27, Tryz.ntmps27
        go_wp2_with fail
        go_ret2
        exact bk_bad HE.out rfl exA
      · have d2 : decide (999999 < num) = false := by simpa using g2
        by_cases g3 : seq < 1
        · have d3 : decide (seq < 1) = true := by simpa using g3
          clear h1 g1 g2 g3 hr hs
          go_enter Tryz.func27, Tryz.ntmps27
          go_wp2_with fail
          go_ret2
          exact bk_bad HE.out rfl exA
        · have d3 : decide (seq < 1) = false := by simpa using g3
          have d4 : decide (1099511627776 < seq) = true := by simp; omega
          clear h1 g1 g2 g3 hr hs
          go_enter Tryz.func27, Tryz.ntmps27
          go_wp2_with fail
          go_ret2
          exact bk_bad HE.out rfl exA
  · have d1 : decide (num < 1) = false := by simp; omega
    have d2 : decide (999999 < num) = false := by simp; omega
    have d3 : decide (seq < 1) = false := by simp; omega
    have d4 : decide (1099511627776 < seq) = false := by simp; omega
    have KV := Lib.hid fun W (hx : Ext w W) => rbvalid_any ss A n c W (hr.ext hx) (by omega) hs
    cases hv : bookB 0 ss with
    | false =>
      have HE := Lib.hid (show bkE num seq ss = ([], 40) by unfold bkE; rw [if_neg h1, if_pos hv])
      rw [hv] at KV
      clear h1 hr hs hv
      go_enter Tryz.func27, Tryz.ntmps27
      go_wp2_with (go_at_call 75; (with_reducible refine (KV.out _ exA).mono ?_); rintro e w1 ⟨rfl, hx1⟩)
      go_ret2
      exact bk_bad HE.out rfl hx1
    | true =>
      obtain ⟨nu, rfl⟩ : ∃ nu : Nat, num = (nu : Int) := ⟨num.toNat, by omega⟩
      obtain ⟨sq, rfl⟩ : ∃ sq : Nat, seq = (sq : Int) := ⟨seq.toNat, by omega⟩
      have hnu : 1 ≤ nu ∧ nu ≤ 999999 := by omega
      have hsq : 1 ≤ sq ∧ sq ≤ 1099511627776 := by omega
      have HE := Lib.hid (bkE_ok hnu.1 hnu.2 hsq.1 hsq.2 hv)
      rw [hv] at KV
      have hv1 := venc_len10 sq (by omega)
      have hv2 := venc_len10 n (by omega)
      have KV1 := Lib.hid fun W => rvenc_any sq W (by omega)
      have KV2 := Lib.hid fun W => rvenc_any n W (by omega)
      unfold NewB at KV1 KV2
      obtain ⟨l1, hl1⟩ : ∃ l1, l1 = (venc sq).length := ⟨_, rfl⟩
      obtain ⟨l2, hl2⟩ : ∃ l2, l2 = (venc n).length := ⟨_, rfl⟩
      rw [← hl1] at KV1
      rw [← hl2] at KV2
      have hok := bkF_ok hnu.2 hsq.2 hv
      have hbl : (layF (bkF nu sq ss)).length ≤ 140737488355328 := by
        rw [preB_all hlen, List.length_append, frB_len]
        have h1 := preB_len (nu := nu) hv hsq.2 n
        show _ + (20 + (venc ss.length).length) ≤ _
        rw [hlen] at h1 ⊢
        omega
      have KL := Lib.hid fun A c W (h : FmRd W A (n + 2) (bkF nu sq ss)) => lay_any (bkF nu sq ss) A (n + 2) c W h hok hbl (by omega)
      unfold NewB at KL
      have Hl1 := Lib.hid hl1
      have Hl2 := Lib.hid hl2
      have Hbm := Lib.hid (book_mem hv)
      have cu1 : IntKind.u64.wrap (sq : Int) = (sq : Int) := by rw [IntKind.wrap_u64]; omega
      have cu2 : IntKind.u64.wrap (n : Int) = (n : Int) := by rw [IntKind.wrap_u64]; omega
      have HR := Lib.hid hr
      have HSm := Lib.hid hs
      have Hlen := Lib.hid hlen
      clear hl1 hl2 hr hs hlen hv h1 hok hbl
      go_enter Tryz.func27, Tryz.ntmps27
      go_wp2_with (first
        | (go_at_call 75; (with_reducible refine (KV.out _ exA).mono ?_); rintro e w1 ⟨rfl, hx1⟩)
        | (go_at_call 76; (with_reducible refine (KV1.out _).mono ?_); rintro e w2 ⟨A2, c2, rfl, hx2, ho2⟩))
      have hX2 := hx1.tr hx2
      have ho2' := own_base ho2 hx1.size
      go_loopw [8, 37] (fun c8 c37 wr => RbR w nu sq ss c8 c37 wr) (fun _ c37 _ => n - (intOf c37).toNat)
      case atStart =>
        refine ⟨0, some ⟨w2.heap.size, 0, none⟩, 1, [((6, nu, venc sq), A2, c2)], rfl, Nat.zero_le _, rfl, rfl, ExtA hX2, ?_, fun h hh => ?_⟩
        · have := own_one_fm w2 w.heap.size w2.heap.size rfl hX2.size (6, nu, venc sq) A2 c2
          unfold fmcells at this
          dsimp only at this
          rw [← Hl1.out] at this
          exact this
        · rw [List.mem_singleton.1 hh]
          dsimp only
          rw [← Hl1.out]
          exact own_ext (ExtA (Ext.rfl' w2)) ho2'
      case round =>
        clear hx1 hx2 ho2 hX2 ho2'
        obtain ⟨k, A1, c1, hs1, rfl, hk, rfl, hm, hx, ho⟩ := hrel
        rw [Hlen.out] at hk
        by_cases hlt : k < n
        · obtain ⟨b, o, s, As, cs, hsk, rfl, hc, hls⟩ := ss_at (HR.out.ext hx) hlt
          have hsm := HSm.out s (List.mem_of_getElem? hsk)
          have hsv := (Hbm.out s (List.mem_of_getElem? hsk)).2.2
          have KC := Lib.hid fun W (hx2 : Ext wr W) => renc9_any s As cs W (LsRd.ext hls hx2) (by have := hsm.1; omega) hsm.2
          unfold CanEPost at KC
          obtain ⟨he1, he2⟩ := canE_pos hsv
          rw [he1, he2] at KC
          have hol := (valid_iff.1 hsv).order
          have hsf : stF s = (5, s.order.toNat, encR (refF s)) := rfl
          have htk : (ss.take (k + 1)).map stF = (ss.take k).map stF ++ [stF s] := by rw [List.take_add_one, hsk, List.map_append]; rfl
          obtain ⟨rec, hrec⟩ : ∃ rec, rec = encR (refF s) := ⟨_, rfl⟩
          obtain ⟨lr, hlr⟩ : ∃ lr, lr = rec.length := ⟨_, rfl⟩
          obtain ⟨on, hon⟩ : ∃ on : Nat, s.order = (on : Int) := ⟨s.order.toNat, by omega⟩
          rw [← hrec] at KC hsf
          rw [← hlr] at KC
          rw [show s.order.toNat = on by omega] at hsf
          rw [hsf] at htk
          have Htk := Lib.hid htk
          have Hlr := Lib.hid hlr
          obtain ⟨order, status, prior, cur, tax, ls, paid, refunded, events, refused, stamp, who⟩ := s
          dsimp only at hon
          subst hon
          obtain ⟨n2, hn2⟩ : ∃ n2, n2 = ls.length := ⟨_, rfl⟩
          have hc' : wr.rangeAt b (o + k * 12) (#[.int .i64 (on : Nat), .int .i64 status, .int .i64 prior, .int .i64 cur, .int .i64 tax, .slice As n2 cs, .int .i64 paid, .int .i64 refunded, .int .i64 events, .int .i64 refused, .int .i64 stamp, .string who] : Array Value).toList := by rw [hn2]; exact hc
          have Hc := Lib.hid hc'
          have F0 : Hid (wr.cell? ⟨b, o + k * 12, none⟩ = some (.int .i64 (on : Nat))) := Lib.hid (by have := hc' 0 _ rfl; simpa using this)
          unfold stcells at KC
          dsimp only at KC
          rw [← hn2] at KC
          have Hx := Lib.hid hx
          have Hm := Lib.hid hm
          have Ho := Lib.hid ho
          have hl1 := ho.len
          clear hn2 hc hc' hls hsm hsk hsv he1 he2 hol hsf htk hrec hlr hx hm ho
          go_wp2_with (first
            | (change wpList _ _ _ (⟨some 44, _, _, _, _, _⟩ :: _) _ _; refine wp_load_ss rfl (.tmp 43) rfl b (o + k * 12) rfl #[.int .i64 (on : Nat), .int .i64 status, .int .i64 prior, .int .i64 cur, .int .i64 tax, .slice As n2 cs, .int .i64 paid, .int .i64 refunded, .int .i64 events, .int .i64 refused, .int .i64 stamp, .string who] rfl Hc.out ?_)
            | (go_at_call 77; (with_reducible refine (KC.out _ exA).mono ?_); rintro e w1 ⟨A3, c3, rfl, hx1, ho1⟩; have f0 : w1.cell? ⟨b, o + k * 12, none⟩ = some (.int .i64 (on : Nat)) := hx1.cell F0.out)
            | (change wpList _ _ _ (⟨some 57, _, _, _, _, _⟩ :: _) _ _; refine wp_append_fm rfl (.tmp 48) (.tmp 56) rfl w rfl (own_ext (ExtA hx1) Ho.out.1) (ExtA (Hx.out.tr hx1)) rfl (news := [((5, on, rec), A3, c3)]) (show RdN _ 3 _ 1 _ from by have h9 := fm_new w1 w1.heap.size (5, on, rec) A3 c3 rfl; unfold fmcells at h9; dsimp only at h9; rw [← Hlr.out] at h9; exact h9) (by rw [hl1]; show (k + 1 + 1) * 40 ≤ _; omega) ?_; intro A4 n4 c4 w4 hx4 hn4 hown4 hk4 hg4))
          obtain rfl : n4 = k + 1 + 1 := by have := hn4.out; rw [hl1] at this; exact this
          go_roundw
          case rel =>
            refine ⟨k + 1, A4, c4, hs1 ++ [((5, on, rec), A3, c3)], by go_num, by rw [Hlen.out]; omega, rfl, by rw [Htk.out, List.map_append, Hm.out]; rfl, hx4, hown4, fun h hh => ?_⟩
            rcases List.mem_append.1 hh with hh | hh
            · exact hk4 _ _ _ _ (own_ext (ExtA hx1) (Ho.out.2 h hh))
            · rw [List.mem_singleton.1 hh]
              dsimp only
              rw [← Hlr.out]
              have hz := Hx.out.size
              exact hk4 _ _ _ _ (own_ext (ExtA (Ext.rfl' w1)) (own_base ho1 (by omega)))
          case measure => simp [intOf]; omega
        · obtain rfl : k = n := by omega
          have htk : ss.take k = ss := List.take_of_length_le (by rw [Hlen.out]; omega)
          rw [htk] at hm
          have Hm := Lib.hid hm
          have Ho := Lib.hid ho
          have hl1 := ho.len
          clear hm ho
          go_upto_region 13 with (first
            | (go_at_call 76; (with_reducible refine (KV2.out _).mono ?_); rintro e w2 ⟨A2, c2, rfl, hx2, ho2⟩)
            | (change wpList _ _ _ (⟨some 67, _, _, _, _, _⟩ :: _) _ _; refine wp_append_fm rfl (.tmp 59) (.tmp 66) rfl w rfl (own_ext (ExtA hx2) Ho.out.1) (ExtA (hx.tr hx2)) rfl (news := [((7, nu, venc k), A2, c2)]) (show RdN _ 3 _ 1 _ from by have h9 := fm_new w2 w2.heap.size (7, nu, venc k) A2 c2 rfl; unfold fmcells at h9; dsimp only at h9; rw [← Hl2.out] at h9; exact h9) (by rw [hl1]; show (k + 1 + 1) * 40 ≤ _; omega) ?_; intro A4 n4 c4 w4 hx4 hn4 hown4 hk4 hg4))
          obtain rfl : n4 = k + 2 := by have := hn4.out; rw [hl1] at this; exact this
          have hF : OwnFm w4 w.heap.size A4 (k + 2) c4 (hs1 ++ [((7, nu, venc k), A2, c2)]) := ⟨hown4, fun h hh => by
            rcases List.mem_append.1 hh with hh | hh
            · exact hk4 _ _ _ _ (own_ext (ExtA hx2) (Ho.out.2 h hh))
            · rw [List.mem_singleton.1 hh]
              dsimp only
              rw [← Hl2.out]
              exact hk4 _ _ _ _ (own_ext (ExtA (Ext.rfl' w2)) (own_base ho2 hx.size))⟩
          have hrd := rd_fm hF (L := bkF nu sq ss) (by rw [List.map_append, Hm.out]; unfold bkF; rw [Hlen.out]; rfl)
          clear hF hown4 hk4 hg4 hn4
          go_wp2_with (go_at_call 78; (with_reducible refine (KL.out _ _ _ hrd).mono ?_); rintro e w5 ⟨A5, c5, rfl, hx5, ho5⟩)
          go_ret2
          rw [HE.out]
          exact ⟨A5, c5, rfl, hx4.tr hx5, own_base ho5 hx4.size⟩
end Go.Proofs.YtjajbbgebblalaaGreatDoor
