/-
  The walks of the document's All and of its Decode of books.
-/
import Derived.Test.YtjajbbgebblalaaGreatDoorShrT
import Derived.Test.YtjajbbgebblalaaGreatDoorBkN
import Derived.Test.YtjajbbgebblalaaGreatDoorBkE
import Derived.Test.YtjajbbgebblalaaGreatDoorVarE
import Derived.Test.YtjajbbgebblalaaGreatDoorCanG
import Derived.Test.YtjajbbgebblalaaGreatDoorBytesW
namespace Go.Proofs.YtjajbbgebblalaaGreatDoor
open Go.RowKit
set_option linter.unusedVariables false
set_option linter.unusedSimpArgs false
def RaR (w : World) (b : List UInt8) (c5 c6 : Value) (wr : World) : Prop :=
  ∃ (k : Nat) (A : Option Addr) (c : Nat) (hs : List HPl), k ≤ (scn b).1.length ∧ c5 = .slice A k c ∧ c6 = .int .i64 (offB b k : Nat) ∧ hs.map (·.1) = (plcs b k).map plOf ∧ Ext w wr ∧ OwnPl wr w.heap.size A k c hs
set_option maxRecDepth 100000 in
set_option maxHeartbeats 8000000 in
theorem rall_any (A : Option Addr) (m c : Nat) (b : List UInt8) (w : World) (hrd : Rd w A m (u8s b)) (hmc : m ≤ c) (hm : m ≤ 1099511627776) :
    Calls Tryz.prog 84 #[.slice A m c] w (ScPost w b) := by
  have hlen : b.length = m := by have := hrd.1; rw [u8s_len] at this; exact this
  have hns : 20 * (scn b).1.length ≤ m := by have h1 := scn_good b; omega
  have HRd := Lib.hid hrd
  have Hlen := Lib.hid hlen
  clear hrd hlen
  go_enter Tryz.func84, Tryz.ntmps84
  go_wp2_with fail
  go_loopw [5, 6] (fun c5 c6 wr => RaR w b c5 c6 wr) (fun _ c6 _ => m - (intOf c6).toNat)
  case atStart => exact ⟨0, some ⟨w.heap.size, 0, none⟩, 0, [], Nat.zero_le _, rfl, by simp [offB, layF], rfl, exA, own_empty_pl w _ _ rfl (Nat.le_refl _)⟩
  case round =>
    obtain ⟨k, B, d, hs, hk, rfl, rfl, hmp, hx, ho⟩ := hrel
    by_cases hlt : k < (scn b).1.length
    · obtain ⟨f, hf⟩ : ∃ f, (scn b).1[k]? = some f := ⟨_, List.getElem?_eq_getElem hlt⟩
      obtain ⟨hd, hof⟩ := scn_step hf
      have hfo := scn_ok b f (List.mem_of_getElem? hf)
      have hos := offB_succ hf
      have hps := plcs_succ hf
      have hol := offB_le b (k + 1) hlt
      rw [Hlen.out] at hof hol
      obtain ⟨A', hsl, hrd'⟩ := slice_lo A m c (offB b k) (by omega) hmc
      have KD := Lib.hid fun W1 (hx1 : Ext wr W1) => rfdec_any A' (m - offB b k) (c - offB b k) (b.drop (offB b k)) W1 (hrd' W1 b (HRd.out.ext (hx.tr hx1))) (by omega) (by simp only [maxLen]; omega)
      rw [hd] at KD
      unfold DcPost frcells at KD
      obtain ⟨kd, sq, body⟩ := f
      dsimp only at KD hos hfo
      obtain ⟨lb, hlb⟩ : ∃ lb, lb = body.length := ⟨_, rfl⟩
      rw [← hlb] at KD hos
      obtain ⟨sz, hsz⟩ : ∃ sz, sz = 20 + lb := ⟨_, rfl⟩
      rw [← hsz] at KD hos
      have hofk : (offB b k : Int) < (m : Int) := by omega
      have Hps := Lib.hid (show (plcs b (k + 1)).map plOf = (plcs b k).map plOf ++ [(offB b k, sz, kd, sq, body)] by rw [hps, List.map_append, hsz, hlb]; rfl)
      have hsz2 : offB b k + sz ≤ m := by omega
      have Hos := Lib.hid hos
      have hz1 : 1 ≤ sz := by omega
      clear hos hol hsz hd hof hfo hps hf hrd'
      generalize offB b k = of at *
      have Hlb := Lib.hid hlb
      have HX := Lib.hid hx
      have Ho := Lib.hid ho
      have Hmp := Lib.hid hmp
      have hl1 := ho.len
      have hbn : (k + 1) * 56 ≤ 140737488355328 := by omega
      have ew : IntKind.i64.wrap ((of : Int) + (sz : Int)) = ((of + sz : Nat) : Int) := by rw [IntKind.wrap_i64]; omega
      clear hlb hx ho hmp
      go_wp2_with (first
        | (go_at_call 71; (with_reducible refine (KD.out _ exA).mono ?_); rintro e w1 ⟨A1, c1, rfl, hx1, ho1, -⟩)
        | (change wpList _ _ _ (⟨some 34, _, _, _, _, _⟩ :: _) _ _; refine wp_append_pl rfl (.tmp 28) (.tmp 33) rfl w rfl (own_ext (ExtA (ExtA hx1)) Ho.out.1) (ExtA (ExtA (HX.out.tr hx1))) rfl (news := [((of, sz, kd, sq, body), A1, c1)]) (by have h9 := pl_new (w1.alloc (.cells #[.int .i64 (kd : Nat), .int .i64 (sq : Nat), .slice A1 lb c1] 119)) (w1.heap.size + 1) (of, sz, kd, sq, body) A1 c1 (by simp); unfold plcells at h9; dsimp only at h9; rw [← Hlb.out] at h9; exact h9) (by rw [hl1]; exact hbn) ?_; intro A3 n3 c3 w3 hx3 hn3 hown3 hk3 hg3))
      obtain rfl : n3 = k + 1 := by have := hn3.out; rw [hl1] at this; exact this
      go_roundw
      case rel =>
        refine ⟨k + 1, A3, c3, hs ++ [((of, sz, kd, sq, body), A1, c1)], hlt, rfl, by rw [Hos.out]; go_num, by rw [Hps.out, List.map_append, Hmp.out]; rfl, hx3, hown3, fun h hh => ?_⟩
        rcases List.mem_append.1 hh with hh | hh
        · exact hk3 _ _ _ _ (own_ext (ExtA (ExtA hx1)) (Ho.out.2 h hh))
        · rw [List.mem_singleton.1 hh]
          have hz := HX.out.size
          dsimp only
          rw [← Hlb.out]
          exact hk3 _ _ _ _ (own_ext (ExtA (ExtA (Ext.rfl' w1))) (own_base ho1 hz))
      case measure => simp [intOf]; omega
    · obtain rfl : k = (scn b).1.length := by omega
      have hoe := offB_end b
      have hrs := scn_rest b
      have hgl := (scn_good b).2.1
      rw [Hlen.out] at hrs hgl
      have HP : Hid (∀ w2 e, Ext wr w2 → e = .returned (.tuple #[.slice B (scn b).1.length d, .int .i64 (offB b (scn b).1.length : Nat), .int .i64 ((scn b).2.2 : Nat)]) → ScPost w b e w2) := Lib.hid fun w2 e hx2 he => ⟨B, d, hs, by rw [he, hoe], hmp, hx.tr hx2, ho.ext hx2⟩
      by_cases hE0 : (scn b).2.2 = 0
      · have hof : offB b (scn b).1.length = m := by rw [hoe]; exact hrs.1.1 hE0
        rw [hE0] at HP
        rw [hof] at HP ⊢
        clear hof hoe hrs hgl hE0
        go_wp2_with fail
        (try simp only [Exit.inBlock, Exit.then]); refine bodyPost_ret (results_t3 rfl _ rfl rfl rfl) rfl ?_
        exact HP.out _ _ (Ext.rfl' _) rfl
      · have hof : offB b (scn b).1.length < m := by
          rw [hoe]
          rcases Nat.lt_or_ge (scn b).2.1 m with h | h
          · exact h
          · exact absurd (hrs.1.2 (by omega)) hE0
        have hde : (fdec (b.drop (offB b (scn b).1.length))).2.2 = (scn b).2.2 := by rw [hoe]; exact hrs.2 hE0
        obtain ⟨A', hsl, hrd'⟩ := slice_lo A m c (offB b (scn b).1.length) (by omega) hmc
        have KD := Lib.hid fun W1 (hx1 : Ext wr W1) => rfdec_any A' (m - offB b (scn b).1.length) (c - offB b (scn b).1.length) (b.drop (offB b (scn b).1.length)) W1 (hrd' W1 b (HRd.out.ext (hx.tr hx1))) (by omega) (by simp only [maxLen]; omega)
        obtain ⟨⟨⟨k1, s1, b1⟩, n1, E1⟩, hfd⟩ : ∃ x, x = fdec (b.drop (offB b (scn b).1.length)) := ⟨_, rfl⟩
        rw [← hfd] at KD hde
        unfold DcPost frcells at KD
        dsimp only at KD hde
        rw [← hde] at HP
        have hE1 : ¬ (E1 : Int) = 0 := by rw [hde]; omega
        have x1 : ((E1 : Int) != 0) = true := by simp; omega
        have hofk : (offB b (scn b).1.length : Int) < (m : Int) := by omega
        generalize offB b (scn b).1.length = of at *
        obtain ⟨lb, hlb⟩ : ∃ lb, lb = b1.length := ⟨_, rfl⟩
        rw [← hlb] at KD
        clear hoe hrs hgl hE0 hde hfd hrd' hof hlb
        go_wp2_with (go_at_call 71; (with_reducible refine (KD.out _ exA).mono ?_); rintro e w1 ⟨A1, c1, rfl, hx1, ho1, -⟩)
        (try simp only [Exit.inBlock, Exit.then]); refine bodyPost_ret (results_t3 rfl _ rfl rfl rfl) rfl ?_
        exact HP.out _ _ exA rfl
theorem rsts_bad {l : List Frm} {f : Frm} (h : f ∈ l) (h5 : f.1 = 5) (hb : (canD f.2.2).2 ≠ 0) : rstsOf l = none := by
  induction l with
  | nil => cases h
  | cons x r ih =>
    unfold rstsOf
    rcases List.mem_cons.1 h with rfl | h
    · rw [if_pos h5, if_pos hb]
    · split
      · split
        · rfl
        · rw [ih h]; rfl
      · exact ih h
theorem rsts_one {f : Frm} (h5 : f.1 = 5) (hb : (canD f.2.2).2 = 0) : rstsOf [f] = some [(canD f.2.2).1] := by
  unfold rstsOf
  rw [if_pos h5, if_neg (by rw [hb]; simp)]
  rfl
theorem rsts_no {f : Frm} (h5 : ¬ f.1 = 5) : rstsOf [f] = some [] := by
  unfold rstsOf
  rw [if_neg h5]
  rfl
theorem rsts_valid {l : List Frm} {ss : List St} (h : rstsOf l = some ss) : ss.length ≤ l.length ∧ ∀ s ∈ ss, validB s = true := by
  induction l generalizing ss with
  | nil => injection h with h; subst h; exact ⟨Nat.le_refl _, fun s hs => by cases hs⟩
  | cons x r ih =>
    unfold rstsOf at h
    split at h
    · split at h
      · cases h
      rename_i h1
      obtain ⟨r2, h2, rfl⟩ := Option.map_eq_some_iff.1 h
      obtain ⟨g1, g2⟩ := ih h2
      refine ⟨by simp; exact g1, fun s hs => ?_⟩
      rcases List.mem_cons.1 hs with rfl | hs
      · exact (canD_inv (Classical.byContradiction h1)).1
      · exact g2 s hs
    · obtain ⟨g1, g2⟩ := ih h
      exact ⟨by simp; omega, g2⟩
def RdS (w3 : World) (fs : List Frm) (N : Nat) (c14 c49 : Value) (wr : World) : Prop :=
  ∃ (k n2 : Nat) (B : Option Addr) (d : Nat) (hs : List HSt), c49 = .int .i64 (k : Nat) ∧ k ≤ N ∧ c14 = .slice B n2 d ∧ n2 ≤ k ∧ rstsOf (fs.take k) = some (hs.map (·.1)) ∧ Ext w3 wr ∧ OwnSs wr w3.heap.size B n2 d hs
set_option maxRecDepth 100000 in
set_option maxHeartbeats 8000000 in
theorem rbdec_any (A : Option Addr) (n c : Nat) (b : List UInt8) (w : World) (hr : Rd w A n (u8s b)) (hnc : n ≤ c) (hn : n ≤ 1048576) :
    Calls Tryz.prog 32 #[.slice A n c] w (BdPost w (bkR b)) := by
  have hlen : b.length = n := by have := hr.1; rw [u8s_len] at this; exact this
  have hns : 20 * (scn b).1.length ≤ n := by have h1 := scn_good b; omega
  have KD := Lib.hid fun W (hx : Ext w W) => rfdec_any A n c b W (hr.ext hx) hnc (by simp only [maxLen]; omega)
  have KA := Lib.hid fun W (hx : Ext w W) => rall_any A n c b W (hr.ext hx) hnc (by omega)
  obtain ⟨⟨⟨k0, s0, body0⟩, n0, E0⟩, hfd⟩ : ∃ x, x = fdec b := ⟨_, rfl⟩
  rw [← hfd] at KD
  unfold DcPost frcells at KD
  dsimp only at KD
  obtain ⟨lb, hlb⟩ : ∃ l, l = body0.length := ⟨_, rfl⟩
  rw [← hlb] at KD
  have HR := Lib.hid hr
  by_cases h0 : E0 = 0
  · subst h0
    have hb16 : body0.length ≤ 16384 := by
      have h1 := fdec_size (b := b) (by rw [← hfd])
      have h2 := h1.2.2.1.2.2.2
      rw [← hfd] at h2
      exact h2
    rw [← hlb] at hb16
    obtain ⟨⟨v, nv, ev⟩, hvd⟩ : ∃ x, x = vdec body0 := ⟨_, rfl⟩
    have KV := Lib.hid fun A1 c1 W (h : Rd W A1 lb (u8s body0)) => rvdec_any A1 lb c1 body0 W h (by simp only [maxLen]; omega)
    rw [← hvd] at KV
    unfold DecT at KV
    dsimp only at KV
    have HBk : Hid (bkR b = if ev ≠ 0 ∨ 1099511627776 < v then bkBad else match rstsOf (scn b).1 with
        | none => bkBad
        | some ss => if (bkE s0 v ss).2 ≠ 0 ∨ (bkE s0 v ss).1 ≠ b then bkBad else (s0, v, ss, 0)) := Lib.hid (by
      unfold bkR
      rw [← hfd]
      dsimp only
      rw [if_neg (by simp), ← hvd]
      rfl)
    have Hlb := Lib.hid hlb
    clear hfd hvd hlb hr
    by_cases h1 : ev = 0
    · subst h1
      by_cases h2 : 1099511627776 < v
      · have HB := Lib.hid (show bkR b = bkBad by rw [HBk.out, if_pos (.inr h2)])
        have d2 : decide (1099511627776 < (v : Int)) = true := by simp; omega
        clear HBk h2
        go_enter Tryz.func32, Tryz.ntmps32
        go_wp2_with (first
          | (go_at_call 71; (with_reducible refine (KD.out _ exA).mono ?_); rintro e w1 ⟨A1, c1, rfl, hx1, ho1, -⟩)
          | (go_at_call 83; (with_reducible refine (KV.out _ _ _ (rd_own (own_ext (ExtA (Ext.rfl' w1)) ho1))).mono ?_); rintro e w2 ⟨rfl, rfl⟩))
        ((try simp only [Exit.inBlock, Exit.then]); refine bodyPost_ret (results_tmp4 rfl _ _ _) rfl ?_)
        exact bd_bad HB.out rfl exA
      · have d2 : decide (1099511627776 < (v : Int)) = false := by simp; omega
        have HNone : Hid (rstsOf (scn b).1 = none → bkR b = bkBad) := Lib.hid fun h => by rw [HBk.out, if_neg (by omega), h]
        have HGood : Hid (∀ ss, rstsOf (scn b).1 = some ss → bkR b = if (bkE s0 v ss).2 ≠ 0 ∨ (bkE s0 v ss).1 ≠ b then bkBad else (s0, v, ss, 0)) := Lib.hid fun ss h => by rw [HBk.out, if_neg (by omega), h]
        have HOk := Lib.hid (scn_ok b)
        unfold ScPost at KA
        have Hlen := Lib.hid hlen
        obtain ⟨fs, hfs⟩ : ∃ fs, fs = (scn b).1 := ⟨_, rfl⟩
        obtain ⟨N, hNn⟩ : ∃ N, N = fs.length := ⟨_, rfl⟩
        rw [← hfs] at KA HNone HGood HOk hns
        rw [← hNn] at KA hns
        have Hfs := Lib.hid hfs
        have HNn := Lib.hid hNn
        have cu : IntKind.i64.wrap (v : Int) = (v : Int) := by rw [IntKind.wrap_i64]; omega
        have hals := alloc_st0
        clear HBk h2 hfs hNn hlen
        go_enter Tryz.func32, Tryz.ntmps32
        go_upto_region 8 with (first
          | (go_at_call 71; (with_reducible refine (KD.out _ exA).mono ?_); rintro e w1 ⟨A1, c1, rfl, hx1, ho1, -⟩)
          | (go_at_call 83; (with_reducible refine (KV.out _ _ _ (rd_own (own_ext (ExtA (Ext.rfl' w1)) ho1))).mono ?_); rintro e w2 ⟨rfl, rfl⟩)
          | (go_at_call 84; (with_reducible refine (KA.out _ exA).mono ?_); rintro e w3 ⟨A3, c3, hp, rfl, hm, hx3, hop⟩))
        have hX3 : Ext w w3 := (ExtA hx1).tr hx3
        have b6 : Blk w3 w1.heap.size 119 #[.int .i64 (k0 : Nat), .int .i64 (s0 : Nat), .slice A1 lb c1] := BlkE (BlkN rfl) hx3
        have hz13 : w1.heap.size < w3.heap.size := b6.lt
        generalize w1.heap.size = g6 at *
        have HX3 := Lib.hid hX3
        have HP := Lib.hid hop
        have Hm := Lib.hid hm
        have B6 := Lib.hid b6
        clear hx1 ho1 hx3 hop hm hX3 b6 KD KV KA
        go_wp2_with fail
        go_loopw [14, 49] (fun c14 c49 wr => RdS w3 fs N c14 c49 wr) (fun _ c49 _ => N - (intOf c49).toNat)
        case atStart => exact ⟨0, 0, some ⟨w3.heap.size, 0, none⟩, 0, [], rfl, Nat.zero_le _, rfl, Nat.le_refl _, rfl, ExtA (Ext.rfl' w3), own_empty_ss w3 _ _ rfl (Nat.le_refl _)⟩
        case round =>
          obtain ⟨k, n2', B, d, hs2, rfl, hk, rfl, hnk, hst, hx, ho⟩ := hrel
          by_cases hlt : k < N
          · obtain ⟨g, o, A4, c4, x, hxk, rfl, hc, hrd, hlc⟩ := pl_fm Hm.out (HP.out.ext hx) hlt
            rw [← Hfs.out] at hxk
            have hmem := List.mem_of_getElem? hxk
            have htk : fs.take (k + 1) = fs.take k ++ [x.2.2] := by rw [List.take_add_one, hxk]; rfl
            have hlb := (HOk.out _ hmem).2.2.2
            obtain ⟨at_, sz, kd, sq, body⟩ := x
            dsimp only at hmem htk hlb hrd hlc
            obtain ⟨lb2, hlbe⟩ : ∃ l, l = body.length := ⟨_, rfl⟩
            unfold plcells at hc
            dsimp only at hc
            rw [← hlbe] at hc hlb hrd hlc
            have f2 : wr.cell? ⟨g, o + k * 5 + 2, none⟩ = some (.int .i64 (kd : Nat)) := hc 2 _ rfl
            have f4 : wr.cell? ⟨g, o + k * 5 + 2 + 2, none⟩ = some (.slice A4 lb2 c4) := hc 4 _ rfl
            have hl1 := ho.len
            by_cases h5 : kd = 5
            · have x5 : ((kd : Int) == 5) = true := by simp; omega
              have KC := Lib.hid fun W (h : Ext wr W) => rcdec_any A4 lb2 c4 body W (hrd.ext h) hlc (by simp only [maxLen]; omega)
              unfold CanDPost at KC
              have HBadM : Hid ((canD body).2 ≠ 0 → bkR b = bkBad) := Lib.hid fun h => HNone.out (rsts_bad hmem h5 h)
              have HOne : Hid ((canD body).2 = 0 → rstsOf (fs.take (k + 1)) = some (hs2.map (·.1) ++ [(canD body).1])) := Lib.hid fun h => by rw [htk]; exact rsts_app hst (rsts_one (f := (kd, sq, body)) h5 h)
              obtain ⟨⟨st, Ec⟩, hcan⟩ : ∃ x, x = canD body := ⟨_, rfl⟩
              rw [← hcan] at KC HBadM HOne
              dsimp only at KC HBadM HOne
              have HXr := Lib.hid hx
              have Ho := Lib.hid ho
              have hbn : (n2' + 1) * 120 ≤ 140737488355328 := by omega
              obtain ⟨order, status, prior, cur, tax, ls, paid, refunded, events, refused, stamp, who⟩ := st
              obtain ⟨n2, hn2⟩ : ∃ n2, n2 = ls.length := ⟨_, rfl⟩
              have Hn2 := Lib.hid hn2
              unfold stcells at KC
              dsimp only at KC
              rw [← hn2] at KC
              clear hn2 hcan hmem htk hst hx ho hc hrd hlb hlbe hxk h5
              go_upto_region 14 with (first
                | (go_at_call 85; (with_reducible refine (KC.out _ (Ext.rfl' _)).mono ?_); rintro e w4 ⟨As, cs, rfl, hx4, ho4⟩)
                | (change wpList _ _ _ (⟨none, .store _ (.tmp 16) _, _, _, _, _⟩ :: _) _ _; refine wpL_store_new rfl 77 (.tmp 16) (.tmp 67) rfl w4.heap.size 77 #[.int .i64 0, .int .i64 0, .int .i64 0, .int .i64 0, .int .i64 0, .slice none 0 0, .int .i64 0, .int .i64 0, .int .i64 0, .int .i64 0, .int .i64 0, .string ⟨#[]⟩] #[.int .i64 order, .int .i64 status, .int .i64 prior, .int .i64 cur, .int .i64 tax, .slice As n2 cs, .int .i64 paid, .int .i64 refunded, .int .i64 events, .int .i64 refused, .int .i64 stamp, .string who] rfl rfl rfl rfl (st_one' _ _ _ _ _ _ _ _ _ _ _ _ _ _) 12 ss_wide rfl ?_))
              have hX2 : Ext wr (w4.alloc (.cells #[.int .i64 order, .int .i64 status, .int .i64 prior, .int .i64 cur, .int .i64 tax, .slice As n2 cs, .int .i64 paid, .int .i64 refunded, .int .i64 events, .int .i64 refused, .int .i64 stamp, .string who] 77)) := ExtA hx4
              by_cases t : Ec = 0
              · subst t
                go_wp2_with (first
                  | (change wpList _ _ _ (⟨some 72, _, _, _, _, _⟩ :: _) _ _; refine wpL_load_row (o := ⟨some 72, _, _, _, _, _⟩) rfl 77 (.tmp 16) rfl w4.heap.size 77 _ 12 rfl (BlkN rfl) ss_wide (st_size' _ _ _ _ _ _ _ _ _ _ _ _ _ _) ?_)
                  | (change wpList _ _ _ (⟨some 74, _, _, _, _, _⟩ :: _) _ _; refine wp_append_ss rfl (.tmp 71) (.tmp 73) rfl w3 rfl (own_ext (ExtA hX2) Ho.out.1) (ExtA (HXr.out.tr hX2)) rfl (news := [(⟨order, status, prior, cur, tax, ls, paid, refunded, events, refused, stamp, who⟩, As, cs)]) (show RdN _ 12 _ 1 _ from by have h9 := ss_new (w4.alloc (.cells #[.int .i64 order, .int .i64 status, .int .i64 prior, .int .i64 cur, .int .i64 tax, .slice As n2 cs, .int .i64 paid, .int .i64 refunded, .int .i64 events, .int .i64 refused, .int .i64 stamp, .string who] 77)) (w4.heap.size + 1) ⟨order, status, prior, cur, tax, ls, paid, refunded, events, refused, stamp, who⟩ As cs (by simp); unfold sscells stcells at h9; dsimp only at h9; rw [← Hn2.out] at h9; exact h9) (by rw [hl1]; exact hbn) ?_; intro B3 n3 d3 w6 hx6 hn3 hown3 hk3 hg3))
                obtain rfl : n3 = n2' + 1 := by have := hn3.out; rw [hl1] at this; exact this
                go_roundw
                case rel =>
                  refine ⟨k + 1, n2' + 1, B3, d3, hs2 ++ [(⟨order, status, prior, cur, tax, ls, paid, refunded, events, refused, stamp, who⟩, As, cs)], by go_num, hlt, rfl, by omega, by rw [HOne.out rfl, List.map_append]; rfl, hx6, hown3, fun h hh => ?_⟩
                  rcases List.mem_append.1 hh with hh | hh
                  · exact hk3 _ _ _ _ (own_ext (ExtA hX2) (Ho.out.2 h hh))
                  · rw [List.mem_singleton.1 hh]
                    have hz := HXr.out.size
                    exact hk3 _ _ _ _ (own_ext (ExtA (ExtA (Ext.rfl' w4))) (own_base ho4 hz))
                case measure => simp [intOf]; omega
              · have HB := Lib.hid (HBadM.out t)
                have x6 : ((Ec : Int) != 0) = true := by simp; omega
                clear t
                go_wp2_with fail
                ((try simp only [Exit.inBlock, Exit.then]); refine bodyPost_ret (results_tmp4 rfl _ _ _) rfl ?_)
                exact bd_bad HB.out rfl (HX3.out.tr (HXr.out.tr hX2))
            · have x5 : ((kd : Int) == 5) = false := by simp; omega
              have HOne : Hid (rstsOf (fs.take (k + 1)) = some (hs2.map (·.1))) := Lib.hid (by rw [htk]; have h := rsts_app hst (rsts_no (f := (kd, sq, body)) h5); rwa [List.append_nil] at h)
              clear htk hst hmem hlbe hxk h5
              go_wp2_with fail
              go_roundw
              case rel => exact ⟨k + 1, n2', B, d, hs2, by go_num, hlt, rfl, by omega, HOne.out, hx, ho⟩
              case measure => simp [intOf]; omega
          · obtain rfl : k = N := by omega
            have hmt : fs.take k = fs := List.take_of_length_le (by rw [← HNn.out]; omega)
            rw [hmt] at hst
            have hva := rsts_valid hst
            have hsm : SsSm (hs2.map (·.1)) := fun s hs => sm_of_valid (valid_iff.1 (hva.2 s hs))
            have hl1 := ho.len
            have KE := Lib.hid fun W (h : Ext wr W) => rbenc_any (s0 : Int) (v : Int) (hs2.map (·.1)) B n2' d W (ho.ext h).rd (by omega) hsm
            have HE := Lib.hid (HGood.out _ hst)
            obtain ⟨⟨bs, Eb⟩, hbe⟩ : ∃ x, x = bkE (s0 : Int) (v : Int) (hs2.map (·.1)) := ⟨_, rfl⟩
            rw [← hbe] at KE HE
            unfold BkPost at KE
            dsimp only at KE HE
            obtain ⟨mb, hmb⟩ : ∃ m, m = bs.length := ⟨_, rfl⟩
            rw [← hmb] at KE
            have hmbx : mb ≤ maxLen := by have h1 := bkE_le (s0 : Int) (v : Int) (hs2.map (·.1)); rw [← hbe] at h1; dsimp only at h1; rw [← hmb, List.length_map] at h1; simp only [maxLen]; omega
            have Hmb := Lib.hid hmb
            have b6 := BlkE B6.out hx
            have f61 := b6.cell 1
            have Ho := Lib.hid ho
            have HXr := Lib.hid hx
            clear hmt hst hva hsm hbe hmb ho hx
            by_cases t : Eb = 0
            · subst t
              have KS := Lib.hid fun A5 c5 W (h : Rd W A5 mb (u8s bs)) (h2 : Ext w W) => same_any A5 A mb c5 n c bs b W h (HR.out.ext h2) hmbx
              by_cases t2 : bs = b
              · have HB := Lib.hid (show bkR b = (s0, v, hs2.map (·.1), 0) by rw [HE.out, if_neg (by simp [t2])])
                rw [decide_eq_true t2] at KS
                clear t2
                go_wp2_with (first
                  | (go_at_call 27; (with_reducible refine (KE.out _ (Ext.rfl' _)).mono ?_); rintro e w4 ⟨A5, c5, rfl, hx5, ho5⟩; have z61 := (BlkE b6 hx5).cell 1)
                  | (go_at_call 29; (with_reducible refine (KS.out _ _ _ (rd_own ho5) (HX3.out.tr (HXr.out.tr hx5))).mono ?_); rintro e w5 ⟨rfl, hx6⟩; have v61 := (BlkE (BlkE b6 hx5) hx6).cell 1))
                ((try simp only [Exit.inBlock, Exit.then]); refine bodyPost_ret (results_tmp4 rfl _ _ _) rfl ?_)
                rw [HB.out]
                have hoo := (Ho.out.ext (hx5.tr hx6)).low HX3.out.size
                refine ⟨B, d, hs2, ?_, rfl, HX3.out.tr (HXr.out.tr (hx5.tr hx6)), ?_⟩
                · rw [List.length_map, hl1]; rfl
                · rw [List.length_map, hl1]; exact hoo
              · have HB := Lib.hid (show bkR b = bkBad by rw [HE.out, if_pos (.inr t2)])
                rw [decide_eq_false t2] at KS
                clear t2
                go_wp2_with (first
                  | (go_at_call 27; (with_reducible refine (KE.out _ (Ext.rfl' _)).mono ?_); rintro e w4 ⟨A5, c5, rfl, hx5, ho5⟩; have z61 := (BlkE b6 hx5).cell 1)
                  | (go_at_call 29; (with_reducible refine (KS.out _ _ _ (rd_own ho5) (HX3.out.tr (HXr.out.tr hx5))).mono ?_); rintro e w5 ⟨rfl, hx6⟩))
                ((try simp only [Exit.inBlock, Exit.then]); refine bodyPost_ret (results_tmp4 rfl _ _ _) rfl ?_)
                exact bd_bad HB.out rfl (HX3.out.tr (HXr.out.tr (hx5.tr hx6)))
            · have HB := Lib.hid (show bkR b = bkBad by rw [HE.out, if_pos (.inl t)])
              have x6 : ((Eb : Int) != 0) = true := by simp; omega
              clear t
              go_wp2_with (go_at_call 27; (with_reducible refine (KE.out _ (Ext.rfl' _)).mono ?_); rintro e w4 ⟨A5, c5, rfl, hx5, ho5⟩; have z61 := (BlkE b6 hx5).cell 1)
              ((try simp only [Exit.inBlock, Exit.then]); refine bodyPost_ret (results_tmp4 rfl _ _ _) rfl ?_)
              exact bd_bad HB.out rfl (HX3.out.tr (HXr.out.tr hx5))
    · have HB := Lib.hid (show bkR b = bkBad by rw [HBk.out, if_pos (.inl h1)])
      have x2 : ((ev : Int) != 0) = true := by simp; omega
      clear HBk h1
      go_enter Tryz.func32, Tryz.ntmps32
      go_wp2_with (first
        | (go_at_call 71; (with_reducible refine (KD.out _ exA).mono ?_); rintro e w1 ⟨A1, c1, rfl, hx1, ho1, -⟩)
        | (go_at_call 83; (with_reducible refine (KV.out _ _ _ (rd_own (own_ext (ExtA (Ext.rfl' w1)) ho1))).mono ?_); rintro e w2 ⟨rfl, rfl⟩))
      ((try simp only [Exit.inBlock, Exit.then]); refine bodyPost_ret (results_tmp4 rfl _ _ _) rfl ?_)
      exact bd_bad HB.out rfl exA
  · have HB := Lib.hid (show bkR b = bkBad by unfold bkR; rw [← hfd, if_pos h0])
    have x1 : ((E0 : Int) != 0) = true := by simp; omega
    clear hfd h0 hlb hr
    go_enter Tryz.func32, Tryz.ntmps32
    go_wp2_with (go_at_call 71; (with_reducible refine (KD.out _ exA).mono ?_); rintro e w1 ⟨A1, c1, rfl, hx1, ho1, -⟩)
    ((try simp only [Exit.inBlock, Exit.then]); refine bodyPost_ret (results_tmp4 rfl _ _ _) rfl ?_)
    exact bd_bad HB.out rfl exA
end Go.Proofs.YtjajbbgebblalaaGreatDoor
