/-
  The walk of OrderCut. (Written by wip/tools/gen_cut.py.)
-/
import Derived.Test.YtlpjhnecihhkfaaOrdLawD
import Derived.Test.YtlpjhnecihhkfaaOrdLawA
import Derived.Test.YtlpjhnecihhkfaaOpenO
namespace Go.Proofs.Ytlpjhnecihhkfaa
open Go.RowKit
set_option linter.unusedVariables false
set_option linter.unusedSimpArgs false
theorem Ext.size {a b : World} (h : Ext a b) : a.heap.size ≤ b.heap.size := Below.size h
def CutB (W : World) (n : Nat) (cut : Int) (v18 : Value) (wc : World) : Prop := ∃ b, v18 = .bool b ∧ (b = true ∨ 0 ≤ cut ∧ cut ≤ n) ∧ Ext W wc
def CutR (W : World) (n : Nat) (v2 : Value) (wc : World) : Prop := ∃ k : Nat, k ≤ n ∧ v2 = .int .i64 (k : Nat) ∧ Ext W wc
def CutS (W : World) (s : St) (v8 : Value) (wc : World) : Prop := ∃ g A c, v8 = .pointer (some ⟨g, 0, none⟩) ∧ Ext W wc ∧ W.heap.size ≤ g ∧ Blk wc g 25 (stcells s A c) ∧ OwnLs wc W.heap.size A s.lines c
theorem new_ev (w : World) : (Instr.buildSlice 49 0 #[]).run Try.prog w = .ok (.slice (some ⟨w.heap.size, 0, none⟩) 0 0) (w.alloc (.cells #[] 28)) := by kernel_rfl
theorem own_new0 {w : World} {b g s : Nat} {e : TypeId} (hb : Blk w g e #[]) (hg : b ≤ g) : w.ownsRow b e s (.slice (some ⟨g, 0, none⟩) 0 0) 0 [] :=
  ⟨by simp, .inr ⟨g, 0, #[], rfl, hg, hb, Nat.le_refl _, Nat.zero_le _, by simp, by simp⟩⟩
theorem own_evs {w : World} {b n c : Nat} {e : TypeId} {A : Option Addr} {xs : List Value} (h : w.ownsRow b e 10 (.slice A (0 + n) c) (0 + n) ([] ++ xs)) : RdN w 10 A n xs := by
  rw [Nat.zero_add, List.nil_append] at h
  exact RdN.of_own h
theorem own_keepB {w w' : World} {b s n g : Nat} {e : TypeId} {v : Value} {xs : List Value} (h : w.ownsRow b e s v n xs) (hk : ∀ g' t' cs', g' ≠ g → Blk w g' t' cs' → Blk w' g' t' cs') (hne : v.ownBlock ≠ some g) : w'.ownsRow b e s v n xs := by
  obtain ⟨h1, h2 | ⟨g1, cap, cur, h2, h3, h4, h5⟩⟩ := h
  · exact ⟨h1, .inl h2⟩
  · refine ⟨h1, .inr ⟨g1, cap, cur, h2, h3, hk _ _ _ (fun hc => hne ?_) h4, h5⟩⟩
    rw [h2, hc]; rfl
theorem yields_slice {P : Program} {ops : Array Oper} {o : Oper} {a : Act} {S : World → Prop} (t : TypeId) (hel : P.underlying t = some (.slice (P.elem t))) (hwt : Region.wanted o (yielded ops a.tmps) = true) (x : Operand) (lo hi : Option Operand) (ho : o.op = .slice t x lo hi none)
    (vx : Value) (lov hiv : Option Value) (v : Value) (hx : a.eval x = vx) (hlo : lo.map a.eval = lov) (hhi : hi.map a.eval = hiv) (hrun : ∀ w, (Instr.slice t vx lov hiv none).run P w = .ok v w) : YieldsIf P ops S o v a :=
  .inl ⟨hwt, fun w _ => by
    unfold execOp
    simp only [ho, hx, hlo, hhi, Option.map_none, Sem.run_bind, run_sliceAt_slice w t _ _ _ _ hel, hrun w, Result.andThen_ok, Sem.run_pure]⟩
theorem size_evE (w : World) : (sizeOf (Try.prog.elem 49)).run Try.prog w = .ok 10 w := by kernel_rfl
theorem elem_evE : Try.prog.underlying 49 = some (.slice (Try.prog.elem 49)) := by kernel_rfl
/-- 'es[:k]'. -/
theorem slice_ev_h (A : Option Addr) (n c k : Nat) (hk : k ≤ n) (hc : n ≤ c) :
    ∃ A' c', (∀ W : World, (Instr.slice 49 (.slice A n c) none (some (.int .i64 (k : Nat))) none).run Try.prog W = .ok (.slice A' k c') W) ∧ ∀ (W : World) (es : List Ev), es.length = n → EsRd W A es → RdN W 10 A' k (evCells (es.take k)) := by
  refine ⟨if c = 0 then A else A.map (·.add (0 * 10)), c, fun W => ?_, fun W es hl hr => ?_⟩
  · rw [run_slice_h W 49 A n c elem_evE .i64 k (by omega) (by omega), size_evE, Result.andThen_ok]
    simp [sliced]
  · have h := es_head_rd hr (show k ≤ es.length by omega)
    refine ⟨h.1, fun h0 => ?_⟩
    obtain ⟨b, o, rfl, hcell⟩ := h.2 h0
    rw [if_neg (by omega)]
    exact ⟨b, o, by simp [Addr.add], hcell⟩
/-- 'es[k:]'. -/
theorem slice_ev_l (A : Option Addr) (n c k : Nat) (hk : k ≤ n) (hc : n ≤ c) :
    ∃ A' c', (∀ W : World, (Instr.slice 49 (.slice A n c) (some (.int .i64 (k : Nat))) none none).run Try.prog W = .ok (.slice A' (n - k) c') W) ∧ ∀ (W : World) (es : List Ev), es.length = n → EsRd W A es → RdN W 10 A' (n - k) (evCells (es.drop k)) := by
  refine ⟨if c = k then A else A.map (·.add (k * 10)), c - k, fun W => ?_, fun W es hl hr => ?_⟩
  · rw [run_slice_l W 49 A n c elem_evE .i64 k (by omega) (by omega), size_evE, Result.andThen_ok]
    simp [sliced]
  · subst hl
    refine ⟨by rw [evCells_len, List.length_drop], fun h0 => ?_⟩
    obtain ⟨b, o, rfl, hcell⟩ := hr.2 (by omega)
    rw [if_neg (by omega)]
    exact (es_tail_rd (k := k) hr hk _ (fun _ => by by_cases h : k * 10 = 0 <;> simp [Addr.add, h])).2 h0
set_option maxRecDepth 100000 in
set_option maxHeartbeats 40000000 in
theorem orderCut_walk (s : St) (A : Option Addr) (c : Nat) (B : Option Addr) (cb : Nat) (es : List Ev) (cut : Int) (w : World) (hr : LsRd w A s.lines) (hs : StWf s) (hre : EsRd w B es) (hel : es.length * 96 ≤ 140737488351232) (hes : ∀ e ∈ es, EvWf e) (hcb : es.length ≤ cb) (hcut : I64' cut) :
    Calls Try.prog 9 #[.agg (stcells s A c), .slice B es.length cb, .int .i64 cut] w fun e w' => e = .returned (.bool true) ∧ Ext w w' := by
  have hss : StSm s := ⟨hs.2.2.2.1, by have := hs.2.2.1; omega⟩
  have hlen := hs.2.2.2.1
  have hes1 : ∀ e ∈ es, EvSm e := fun e he => ev_sm (hes e he)
  have K0 := Lib.hid head_any
  have K3 := Lib.hid fun W (h : LsRd W A s.lines) => scopy_any s A c W h (by omega)
  have KF0 := Lib.hid fun A1 c1 A2 c2 W (h : LsRd W A1 s.lines) (h2 : EsRd W A2 es) => fold_any s es A1 A2 c1 c2 W h h2 hss hes1 (by omega)
  have KS0 := Lib.hid fun A1 c1 A2 c2 W (h : LsRd W A1 (fold s es).lines) (h2 : LsRd W A2 (fold s es).lines) => same_any (fold s es) A1 A2 c1 c2 W h h2 (by have := (sm_fold es hss).1; omega)
  have HF : Hid (∀ k, fold (fold s (es.take k)) (es.drop k) = fold s es) := Lib.hid fun k => by rw [← fold_app, List.take_append_drop]
  have HK1 : Hid (∀ k A1 c1 A2 c2 W, LsRd W A1 s.lines → EsRd W A2 (es.take k) → Calls Try.prog 28 #[.agg (stcells s A1 c1), .slice A2 (es.take k).length c2] W (FoPost W (fold s (es.take k)))) := Lib.hid fun k A1 c1 A2 c2 W h h2 => fold_any s (es.take k) A1 A2 c1 c2 W h h2 hss (fun e he => hes1 e (List.mem_of_mem_take he)) (by rw [List.length_take]; omega)
  have HK2 : Hid (∀ k A1 c1 A2 c2 W, LsRd W A1 (fold s (es.take k)).lines → EsRd W A2 (es.drop k) → Calls Try.prog 28 #[.agg (stcells (fold s (es.take k)) A1 c1), .slice A2 (es.drop k).length c2] W (FoPost W (fold (fold s (es.take k)) (es.drop k)))) := Lib.hid fun k A1 c1 A2 c2 W h h2 => fold_any (fold s (es.take k)) (es.drop k) A1 A2 c1 c2 W h h2 (sm_fold _ hss) (fun e he => hes1 e (List.mem_of_mem_drop he)) (by rw [List.length_drop]; omega)
  have H1s := Lib.hid (evCells_one es)
  have Hc1 := Lib.hid fun k => evCells_one (es.take k)
  have Hc2 := Lib.hid fun k => evCells_one (es.drop k)
  have Htk : Hid (∀ k, k ≤ es.length → (es.take k).length = k) := Lib.hid fun k h => by rw [List.length_take]; omega
  have Hdr : Hid (∀ k, (es.drop k).length = es.length - k) := Lib.hid fun k => List.length_drop
  obtain ⟨n, hnn⟩ : ∃ n, n = es.length := ⟨_, rfl⟩
  have hre0 : RdN w 10 B n (evCells es) := by rw [hnn]; exact hre
  rw [← hnn] at hel hcb KF0 ⊢
  have Hn := Lib.hid hnn
  unfold CopPost at K3
  unfold FoPost at KF0 HK1 HK2
  clear hes hs hes1 hss hlen hnn
  go_enter Try.func9, Try.ntmps9
  go_upto_region 3 with (go_at_call 20; (with_reducible refine (K0.out _).mono ?_); rintro e w1 ⟨rfl, hx1⟩; have b1 : Blk w1 w.heap.size 25 (stcells s A c) := BlkE (BlkN rfl) hx1)
  have hX1 : Ext w w1 := exA
  go_cut [18] (fun v18 wc => CutB w1 n cut v18 wc)
  case first =>
    by_cases hc0 : cut < 0
    · go_wp2_with fail
      go_meet
      case rel => exact ⟨true, rfl, .inl rfl, exA⟩
    · by_cases hc1 : (n : Int) < cut
      · go_wp2_with fail
        go_meet
        case rel => exact ⟨true, by simp, .inl rfl, exA⟩
      · go_wp2_with fail
        go_meet
        case rel => exact ⟨false, by simp, .inr (by omega), exA⟩
  case rest =>
  obtain ⟨b, rfl, hbb, hxb⟩ := hcut
  have b1 := BlkE b1 hxb
  have hX1 := Ext.tr hX1 hxb
  clear hxb hx1
  go_upto_if 18 with fail
  go_cut [2] (fun v2 wc2 => CutR wc n v2 wc2)
  case first =>
    cases b with
    | true =>
      go_wp2_with fail
      go_meet
      case rel => exact ⟨n / 2, by omega, by go_num, exA⟩
    | false =>
      go_wp2_with fail
      go_meet
      case rel => exact ⟨cut.toNat, by simp at hbb; omega, by rw [Int.toNat_of_nonneg (by simp at hbb; omega)], exA⟩
  case rest =>
    obtain ⟨k, hk, rfl, hxc⟩ := hcut
    have b2 := BlkE b1 hxc
    have hX2 : Ext w wc := Ext.tr hX1 hxc
    go_upto_region 6 with (first
      | (with_reducible refine wpL_load_row rfl 25 (.tmp 3) rfl _ 25 _ 12 rfl b2 st_wide (stc_size _ _ _) ?_)
      | (go_at_call 15; (with_reducible refine (K3.out _ (hr.ext exA)).mono ?_); rintro e w4 ⟨A4, c4, rfl, hx4, ho4⟩)
      | (at_builtin; go_must (refine wpL_copy rfl (.tmp 24) (.tmp 25) 49 rfl 28 _ 10 96 Try.underlying49 el_ev _ _ _ _ rfl rfl (hre0.ext exA) H1s.out (by omega) (by simp only [maxLen]; omega) ?_); intro A7 c7 w7 hx7 hown7; have hE7 : EsRd w7 A7 es := (by have h := RdN.of_own hown7; unfold EsRd; rw [← Hn.out]; exact h))
      | (go_at_call 28; go_loud ((with_reducible refine (KF0.out _ _ _ _ _ (ho4.rd.ext exA) hE7).mono ?_); rintro e w9 ⟨A8, c8, rfl, hx9, ho8⟩; have b9 : Blk w9 w.heap.size 25 (stcells s A c) := BlkE b2 exA; have hG : w.heap.size < w9.heap.size := b9.lt; have hw9 : wc.heap.size ≤ w9.heap.size := Ext.size (show Ext wc w9 from exA)))
      | (with_reducible refine wpL_store_row rfl 25 (.tmp 7) (.tmp 27) rfl _ 25 _ _ rfl rfl (BlkN rfl) ((stc_size _ _ _).trans (st_size' _ _ _ _ _ _ _ _ _ _ _ _ _ _).symm) (stc_one _ _ _) 12 st_wide (stc_size _ _ _) ?_))
    have b7 := Blk.setRow_ (ds := stcells (fold s es) A8 c8) (BlkN (w := w9) (cs := #[.int .i64 0, .int .i64 0, .int .i64 0, .int .i64 0, .int .i64 0, .slice none 0 0, .int .i64 0, .int .i64 0, .int .i64 0, .int .i64 0, .int .i64 0, .string ⟨#[]⟩]) (t := 25) rfl)
    have hX0 : Ext w ((w9.alloc (.cells #[.int .i64 0, .int .i64 0, .int .i64 0, .int .i64 0, .int .i64 0, .slice none 0 0, .int .i64 0, .int .i64 0, .int .i64 0, .int .i64 0, .int .i64 0, .string ⟨#[]⟩] 25)).setRow w9.heap.size (stcells (fold s es) A8 c8)) := exA
    have b3 : Blk ((w9.alloc (.cells #[.int .i64 0, .int .i64 0, .int .i64 0, .int .i64 0, .int .i64 0, .slice none 0 0, .int .i64 0, .int .i64 0, .int .i64 0, .int .i64 0, .int .i64 0, .string ⟨#[]⟩] 25)).setRow w9.heap.size (stcells (fold s es) A8 c8)) w.heap.size 25 (stcells s A c) := BlkR (Nat.ne_of_lt hG) (BlkA b9)
    have o7 : LsRd ((w9.alloc (.cells #[.int .i64 0, .int .i64 0, .int .i64 0, .int .i64 0, .int .i64 0, .slice none 0 0, .int .i64 0, .int .i64 0, .int .i64 0, .int .i64 0, .int .i64 0, .string ⟨#[]⟩] 25)).setRow w9.heap.size (stcells (fold s es) A8 c8)) A8 (fold s es).lines := (OwnRw (ds := stcells (fold s es) A8 c8) (own_apart (OwnA (o := .cells #[.int .i64 0, .int .i64 0, .int .i64 0, .int .i64 0, .int .i64 0, .slice none 0 0, .int .i64 0, .int .i64 0, .int .i64 0, .int .i64 0, .int .i64 0, .string ⟨#[]⟩] 25) ho8) (BlkN rfl)) (OwnA (o := .cells #[.int .i64 0, .int .i64 0, .int .i64 0, .int .i64 0, .int .i64 0, .slice none 0 0, .int .i64 0, .int .i64 0, .int .i64 0, .int .i64 0, .int .i64 0, .string ⟨#[]⟩] 25) ho8)).rd
    clear hx4 ho4 hx7 hown7 hE7 hx9 ho8 b9 b2 hX2 hxc hw9 hG KF0
    generalize (w9.alloc (.cells #[.int .i64 0, .int .i64 0, .int .i64 0, .int .i64 0, .int .i64 0, .slice none 0 0, .int .i64 0, .int .i64 0, .int .i64 0, .int .i64 0, .int .i64 0, .string ⟨#[]⟩] 25)).setRow w9.heap.size (stcells (fold s es) A8 c8) = Wr at *
    generalize w9.heap.size = g7 at *
    obtain ⟨Bk, ck, hrun, hrd⟩ := slice_ev_h B n cb k hk hcb
    obtain ⟨Bl, cl, hrun2, hrd2⟩ := slice_ev_l B n cb k hk hcb
    have Hrun := Lib.hid hrun
    have Hrun2 := Lib.hid hrun2
    have Hk := Lib.hid fun W (h : EsRd W B es) => hrd W es Hn.out.symm h
    have Hl := Lib.hid fun W (h : EsRd W B es) => hrd2 W es Hn.out.symm h
    clear hrun hrun2 hrd hrd2
    have htk := Htk.out k (by rw [← Hn.out]; exact hk)
    have hdr := Hdr.out k
    rw [← Hn.out] at hdr
    have KF1 := HK1.out k
    have KF2 := HK2.out k
    rw [htk] at KF1
    rw [hdr, HF.out k] at KF2
    have HtkL : Hid (∀ W A6, RdN W 10 A6 k (evCells (es.take k)) → EsRd W A6 (es.take k)) := Lib.hid fun W A6 h => by unfold EsRd; rw [htk]; exact h
    have HdrL : Hid (∀ W A6, RdN W 10 A6 (n - k) (evCells (es.drop k)) → EsRd W A6 (es.drop k)) := Lib.hid fun W A6 h => by unfold EsRd; rw [hdr]; exact h
    have H1k := Lib.hid (Hc1.out k)
    have H1d := Lib.hid (Hc2.out k)
    have KF := Lib.hid KF1
    have KG := Lib.hid KF2
    clear KF1 KF2 htk hdr HK1 HK2 HF Hc1 Hc2 Htk Hdr H1s
    generalize fold s (es.take k) = sK at *
    generalize fold s es = sF at *
    dsimp only [Act.put]
    go_cut [8] (fun v8 wc2 => CutS Wr sK v8 wc2)
    case first =>
      refine wp_region_held_drew (S := fun w' => Ext Wr w') (by kernel_rfl) (ExtD (Ext.rfl' _)) (fun hS => ?_)
      refine takeD (some 28) (i := 0) (v := .agg (stcells s A c)) rfl rfl (by kernel_rfl) (by kernel_rfl) (by kernel_rfl) (fun _ _ _ h => h) (yields_row (by kernel_rfl) 25 (.tmp 3) rfl w.heap.size 25 (stcells s A c) 12 rfl (fun w hw => Ext.blk hw b3) st_wide (stc_size _ _ _)) hS ?_; (try simp only [Act.put, List.setIfInBounds_toArray, List.set_cons_zero, List.set_cons_succ])
      refine takeD (some 31) (i := 3) (v := .slice B n cb) rfl rfl (by kernel_rfl) (by kernel_rfl) (by kernel_rfl) (fun _ _ _ h => h) (Or.inl ⟨by kernel_rfl, fun _ _ => rfl⟩) hS ?_; (try simp only [Act.put, List.setIfInBounds_toArray, List.set_cons_zero, List.set_cons_succ])
      refine takeD (some 32) (i := 4) (v := .int .i64 (k : Nat)) rfl rfl (by kernel_rfl) (by kernel_rfl) (by kernel_rfl) (fun _ _ _ h => h) (Or.inl ⟨by kernel_rfl, fun _ _ => rfl⟩) hS ?_; (try simp only [Act.put, List.setIfInBounds_toArray, List.set_cons_zero, List.set_cons_succ])
      refine takeD (some 33) (i := 5) (v := .slice Bk k ck) rfl rfl (by kernel_rfl) (by kernel_rfl) (by kernel_rfl) (fun _ _ _ h => h) (yields_slice 49 elem_evE (by kernel_rfl) (.tmp 31) none (some (.tmp 32)) rfl _ _ _ _ rfl rfl rfl Hrun.out) hS ?_; (try simp only [Act.put, List.setIfInBounds_toArray, List.set_cons_zero, List.set_cons_succ])
      refine wpAnyH_ready (rs := [1, 2, 8]) (by kernel_rfl) (by simp) (AllReadyH.cons rfl (fun K hK => ?_) (AllReadyH.cons rfl (fun K hK => ?_) (AllReadyH.cons rfl (fun K hK => ?_) AllReadyH.nil)))
      · (refine step_callR rfl (some 29) rfl 15 _ Try.func15 (by kernel_rfl) (by kernel_rfl) _ _ rfl #[.agg (stcells s A c)] (by simp [Act.eval, Act.put]) _ (K3.out _ (hr.ext (Ext.tr hX0 hS))) ?_; rintro e w' ⟨A1, c1, rfl, hx, o1⟩; refine ⟨_, rfl, ?_⟩; have o1 : OwnLs w' Wr.heap.size A1 s.lines c1 := own_less o1 (Ext.size hS);  refine hK.out _ _ (Ext.tr hS hx) ?_; intro hS; clear hx hK; (try simp only [Act.put, List.setIfInBounds_toArray, List.set_cons_zero, List.set_cons_succ]))
        refine wpAnyH_ready (rs := [2, 8]) (by kernel_rfl) (by simp) (AllReadyH.cons rfl (fun K hK => ?_) (AllReadyH.cons rfl (fun K hK => ?_) AllReadyH.nil))
        · (refine step_new0 rfl (some 30) rfl 49 28 rfl new_ev ?_; intro g2 w' hg hx b2; have hg2 := Nat.le_trans (Ext.size hS) hg; have o1 := OwnLs.mono o1 hx;  clear hg; refine hK.out _ _ (Ext.tr hS hx) ?_; intro hS; clear hx hK; (try simp only [Act.put, List.setIfInBounds_toArray, List.set_cons_zero, List.set_cons_succ]))
          refine wpAnyH_ready (rs := [6, 8]) (by kernel_rfl) (by simp) (AllReadyH.cons rfl (fun K hK => ?_) (AllReadyH.cons rfl (fun K hK => ?_) AllReadyH.nil))
          · (have h2 := own_new0 (s := 10) b2 hg2; refine step_append_rd rfl (some 34) rfl (.tmp 30) (.tmp 33) 49 rfl Wr.heap.size 28 _ 10 96 Try.underlying49 el_ev (.slice (some ⟨g2, 0, none⟩) 0 0) 0 [] rfl h2 Bk k ck (evCells (es.take k)) rfl (Hk.out _ (hre.ext (Ext.tr hX0 hS))) H1k.out (by simp only [maxLen]; omega) (by omega) (Ext.size hS) ?_; intro v' w' hown hgr; obtain ⟨A6, c6, rfl⟩ := own_slice hown; have o1 : OwnLs w' Wr.heap.size A1 s.lines c1 := World.ownsRow.kept o1 hgr (own_ne o1 h2 (by decide)); have hS2 : Ext Wr w' := Ext.grown hS hgr (fun r hr => own_lt h2 r hr);  have o6 := own_evs hown; clear h2 hown hgr; refine hK.out _ _ hS2 ?_; intro hS; clear hS2 hK; (try simp only [Act.put, List.setIfInBounds_toArray, List.set_cons_zero, List.set_cons_succ]); rw [Nat.zero_add])
            refine wpAnyH_ready (rs := [7, 8]) (by kernel_rfl) (by simp) (AllReadyH.cons rfl (fun K hK => ?_) (AllReadyH.cons rfl (fun K hK => ?_) AllReadyH.nil))
            · (refine step_callR rfl (some 35) rfl 28 _ Try.func28 (by kernel_rfl) (by kernel_rfl) _ _ rfl #[.agg (stcells s A1 c1), .slice A6 k c6] (by simp [Act.eval, Act.put]) _ (KF.out _ _ _ _ _ o1.rd (HtkL.out _ _ o6)) ?_; rintro e w' ⟨A7, c7, rfl, hx, o7⟩; refine ⟨_, rfl, ?_⟩; have o7 : OwnLs w' Wr.heap.size A7 sK.lines c7 := own_less o7 (Ext.size hS);  refine hK.out _ _ (Ext.tr hS hx) ?_; intro hS; clear hx hK; (try simp only [Act.put, List.setIfInBounds_toArray, List.set_cons_zero, List.set_cons_succ]))
              refine wpAnyH_ready (rs := [8]) (by kernel_rfl) (by simp) (AllReadyH.cons rfl (fun K hK => ?_) AllReadyH.nil)
              (refine step_alloc rfl (some 8) rfl 25 rfl _ alloc_st0 ?_; intro g8 w' hg hx b8; have hg8 := Nat.le_trans (Ext.size hS) hg; have o7 := OwnLs.mono o7 hx;  clear hg; refine hK.out _ _ (Ext.tr hS hx) ?_; intro hS; clear hx hK; (try simp only [Act.put, List.setIfInBounds_toArray, List.set_cons_zero, List.set_cons_succ]))
              refine wpAnyH_ready (rs := [9]) (by kernel_rfl) (by simp) (AllReadyH.cons rfl (fun K hK => ?_) AllReadyH.nil)
              (refine step_store rfl none rfl 25 (.tmp 8) (.tmp 35) rfl g8 25 #[.int .i64 0, .int .i64 0, .int .i64 0, .int .i64 0, .int .i64 0, .slice none 0 0, .int .i64 0, .int .i64 0, .int .i64 0, .int .i64 0, .int .i64 0, .string ⟨#[]⟩] (stcells sK A7 c7) rfl rfl b8 (by rw [stc_size]; rfl) (stc_one _ _ _) 12 st_wide (stc_size _ _ _) ?_; intro w' d8 hkeep hext; have o8 : OwnLs w' Wr.heap.size A7 sK.lines c7 := own_keepB o7 hkeep (own_apart o7 b8 _ _); refine hK.out _ _ (hext _ hg8 hS) ?_; intro hS; clear hkeep hext hK b8; (try simp only [Act.put, List.setIfInBounds_toArray, List.set_cons_zero, List.set_cons_succ]))
              refine wpAnyH_done (by kernel_rfl) ?_ _
              go_wp2_with fail
              go_meet
              case rel => exact ⟨g8, A7, c7, rfl, hS, hg8, d8, o8⟩
            · (refine step_alloc rfl (some 8) rfl 25 rfl _ alloc_st0 ?_; intro g8 w' hg hx b8; have hg8 := Nat.le_trans (Ext.size hS) hg; have o1 := OwnLs.mono o1 hx; have o6 := RdN.ext o6 hx;  clear hg; refine hK.out _ _ (Ext.tr hS hx) ?_; intro hS; clear hx hK; (try simp only [Act.put, List.setIfInBounds_toArray, List.set_cons_zero, List.set_cons_succ]))
              refine wpAnyH_ready (rs := [7]) (by kernel_rfl) (by simp) (AllReadyH.cons rfl (fun K hK => ?_) AllReadyH.nil)
              (refine step_callR rfl (some 35) rfl 28 _ Try.func28 (by kernel_rfl) (by kernel_rfl) _ _ rfl #[.agg (stcells s A1 c1), .slice A6 k c6] (by simp [Act.eval, Act.put]) _ (KF.out _ _ _ _ _ o1.rd (HtkL.out _ _ o6)) ?_; rintro e w' ⟨A7, c7, rfl, hx, o7⟩; refine ⟨_, rfl, ?_⟩; have o7 : OwnLs w' Wr.heap.size A7 sK.lines c7 := own_less o7 (Ext.size hS); have b8 := Ext.blk hx b8;  refine hK.out _ _ (Ext.tr hS hx) ?_; intro hS; clear hx hK; (try simp only [Act.put, List.setIfInBounds_toArray, List.set_cons_zero, List.set_cons_succ]))
              refine wpAnyH_ready (rs := [9]) (by kernel_rfl) (by simp) (AllReadyH.cons rfl (fun K hK => ?_) AllReadyH.nil)
              (refine step_store rfl none rfl 25 (.tmp 8) (.tmp 35) rfl g8 25 #[.int .i64 0, .int .i64 0, .int .i64 0, .int .i64 0, .int .i64 0, .slice none 0 0, .int .i64 0, .int .i64 0, .int .i64 0, .int .i64 0, .int .i64 0, .string ⟨#[]⟩] (stcells sK A7 c7) rfl rfl b8 (by rw [stc_size]; rfl) (stc_one _ _ _) 12 st_wide (stc_size _ _ _) ?_; intro w' d8 hkeep hext; have o8 : OwnLs w' Wr.heap.size A7 sK.lines c7 := own_keepB o7 hkeep (own_apart o7 b8 _ _); refine hK.out _ _ (hext _ hg8 hS) ?_; intro hS; clear hkeep hext hK b8; (try simp only [Act.put, List.setIfInBounds_toArray, List.set_cons_zero, List.set_cons_succ]))
              refine wpAnyH_done (by kernel_rfl) ?_ _
              go_wp2_with fail
              go_meet
              case rel => exact ⟨g8, A7, c7, rfl, hS, hg8, d8, o8⟩
          · (refine step_alloc rfl (some 8) rfl 25 rfl _ alloc_st0 ?_; intro g8 w' hg hx b8; have hg8 := Nat.le_trans (Ext.size hS) hg; have o1 := OwnLs.mono o1 hx; have hne : g8 ≠ g2 := (by have := b2.lt; omega); have b2 := Ext.blk hx b2;  clear hg; refine hK.out _ _ (Ext.tr hS hx) ?_; intro hS; clear hx hK; (try simp only [Act.put, List.setIfInBounds_toArray, List.set_cons_zero, List.set_cons_succ]))
            refine wpAnyH_ready (rs := [6]) (by kernel_rfl) (by simp) (AllReadyH.cons rfl (fun K hK => ?_) AllReadyH.nil)
            (have h2 := own_new0 (s := 10) b2 hg2; refine step_append_rd rfl (some 34) rfl (.tmp 30) (.tmp 33) 49 rfl Wr.heap.size 28 _ 10 96 Try.underlying49 el_ev (.slice (some ⟨g2, 0, none⟩) 0 0) 0 [] rfl h2 Bk k ck (evCells (es.take k)) rfl (Hk.out _ (hre.ext (Ext.tr hX0 hS))) H1k.out (by simp only [maxLen]; omega) (by omega) (Ext.size hS) ?_; intro v' w' hown hgr; obtain ⟨A6, c6, rfl⟩ := own_slice hown; have o1 : OwnLs w' Wr.heap.size A1 s.lines c1 := World.ownsRow.kept o1 hgr (own_ne o1 h2 (by decide)); have hS2 : Ext Wr w' := Ext.grown hS hgr (fun r hr => own_lt h2 r hr); have b8 := BlkG b8 hgr (fun h => hne (by injection h));  have o6 := own_evs hown; clear h2 hown hgr; refine hK.out _ _ hS2 ?_; intro hS; clear hS2 hK; (try simp only [Act.put, List.setIfInBounds_toArray, List.set_cons_zero, List.set_cons_succ]); rw [Nat.zero_add])
            refine wpAnyH_ready (rs := [7]) (by kernel_rfl) (by simp) (AllReadyH.cons rfl (fun K hK => ?_) AllReadyH.nil)
            (refine step_callR rfl (some 35) rfl 28 _ Try.func28 (by kernel_rfl) (by kernel_rfl) _ _ rfl #[.agg (stcells s A1 c1), .slice A6 k c6] (by simp [Act.eval, Act.put]) _ (KF.out _ _ _ _ _ o1.rd (HtkL.out _ _ o6)) ?_; rintro e w' ⟨A7, c7, rfl, hx, o7⟩; refine ⟨_, rfl, ?_⟩; have o7 : OwnLs w' Wr.heap.size A7 sK.lines c7 := own_less o7 (Ext.size hS); have b8 := Ext.blk hx b8;  refine hK.out _ _ (Ext.tr hS hx) ?_; intro hS; clear hx hK; (try simp only [Act.put, List.setIfInBounds_toArray, List.set_cons_zero, List.set_cons_succ]))
            refine wpAnyH_ready (rs := [9]) (by kernel_rfl) (by simp) (AllReadyH.cons rfl (fun K hK => ?_) AllReadyH.nil)
            (refine step_store rfl none rfl 25 (.tmp 8) (.tmp 35) rfl g8 25 #[.int .i64 0, .int .i64 0, .int .i64 0, .int .i64 0, .int .i64 0, .slice none 0 0, .int .i64 0, .int .i64 0, .int .i64 0, .int .i64 0, .int .i64 0, .string ⟨#[]⟩] (stcells sK A7 c7) rfl rfl b8 (by rw [stc_size]; rfl) (stc_one _ _ _) 12 st_wide (stc_size _ _ _) ?_; intro w' d8 hkeep hext; have o8 : OwnLs w' Wr.heap.size A7 sK.lines c7 := own_keepB o7 hkeep (own_apart o7 b8 _ _); refine hK.out _ _ (hext _ hg8 hS) ?_; intro hS; clear hkeep hext hK b8; (try simp only [Act.put, List.setIfInBounds_toArray, List.set_cons_zero, List.set_cons_succ]))
            refine wpAnyH_done (by kernel_rfl) ?_ _
            go_wp2_with fail
            go_meet
            case rel => exact ⟨g8, A7, c7, rfl, hS, hg8, d8, o8⟩
        · (refine step_alloc rfl (some 8) rfl 25 rfl _ alloc_st0 ?_; intro g8 w' hg hx b8; have hg8 := Nat.le_trans (Ext.size hS) hg; have o1 := OwnLs.mono o1 hx;  clear hg; refine hK.out _ _ (Ext.tr hS hx) ?_; intro hS; clear hx hK; (try simp only [Act.put, List.setIfInBounds_toArray, List.set_cons_zero, List.set_cons_succ]))
          refine wpAnyH_ready (rs := [2]) (by kernel_rfl) (by simp) (AllReadyH.cons rfl (fun K hK => ?_) AllReadyH.nil)
          (refine step_new0 rfl (some 30) rfl 49 28 rfl new_ev ?_; intro g2 w' hg hx b2; have hg2 := Nat.le_trans (Ext.size hS) hg; have o1 := OwnLs.mono o1 hx; have hne : g8 ≠ g2 := (by have := b8.lt; omega); have b8 := Ext.blk hx b8;  clear hg; refine hK.out _ _ (Ext.tr hS hx) ?_; intro hS; clear hx hK; (try simp only [Act.put, List.setIfInBounds_toArray, List.set_cons_zero, List.set_cons_succ]))
          refine wpAnyH_ready (rs := [6]) (by kernel_rfl) (by simp) (AllReadyH.cons rfl (fun K hK => ?_) AllReadyH.nil)
          (have h2 := own_new0 (s := 10) b2 hg2; refine step_append_rd rfl (some 34) rfl (.tmp 30) (.tmp 33) 49 rfl Wr.heap.size 28 _ 10 96 Try.underlying49 el_ev (.slice (some ⟨g2, 0, none⟩) 0 0) 0 [] rfl h2 Bk k ck (evCells (es.take k)) rfl (Hk.out _ (hre.ext (Ext.tr hX0 hS))) H1k.out (by simp only [maxLen]; omega) (by omega) (Ext.size hS) ?_; intro v' w' hown hgr; obtain ⟨A6, c6, rfl⟩ := own_slice hown; have o1 : OwnLs w' Wr.heap.size A1 s.lines c1 := World.ownsRow.kept o1 hgr (own_ne o1 h2 (by decide)); have hS2 : Ext Wr w' := Ext.grown hS hgr (fun r hr => own_lt h2 r hr); have b8 := BlkG b8 hgr (fun h => hne (by injection h));  have o6 := own_evs hown; clear h2 hown hgr; refine hK.out _ _ hS2 ?_; intro hS; clear hS2 hK; (try simp only [Act.put, List.setIfInBounds_toArray, List.set_cons_zero, List.set_cons_succ]); rw [Nat.zero_add])
          refine wpAnyH_ready (rs := [7]) (by kernel_rfl) (by simp) (AllReadyH.cons rfl (fun K hK => ?_) AllReadyH.nil)
          (refine step_callR rfl (some 35) rfl 28 _ Try.func28 (by kernel_rfl) (by kernel_rfl) _ _ rfl #[.agg (stcells s A1 c1), .slice A6 k c6] (by simp [Act.eval, Act.put]) _ (KF.out _ _ _ _ _ o1.rd (HtkL.out _ _ o6)) ?_; rintro e w' ⟨A7, c7, rfl, hx, o7⟩; refine ⟨_, rfl, ?_⟩; have o7 : OwnLs w' Wr.heap.size A7 sK.lines c7 := own_less o7 (Ext.size hS); have b8 := Ext.blk hx b8;  refine hK.out _ _ (Ext.tr hS hx) ?_; intro hS; clear hx hK; (try simp only [Act.put, List.setIfInBounds_toArray, List.set_cons_zero, List.set_cons_succ]))
          refine wpAnyH_ready (rs := [9]) (by kernel_rfl) (by simp) (AllReadyH.cons rfl (fun K hK => ?_) AllReadyH.nil)
          (refine step_store rfl none rfl 25 (.tmp 8) (.tmp 35) rfl g8 25 #[.int .i64 0, .int .i64 0, .int .i64 0, .int .i64 0, .int .i64 0, .slice none 0 0, .int .i64 0, .int .i64 0, .int .i64 0, .int .i64 0, .int .i64 0, .string ⟨#[]⟩] (stcells sK A7 c7) rfl rfl b8 (by rw [stc_size]; rfl) (stc_one _ _ _) 12 st_wide (stc_size _ _ _) ?_; intro w' d8 hkeep hext; have o8 : OwnLs w' Wr.heap.size A7 sK.lines c7 := own_keepB o7 hkeep (own_apart o7 b8 _ _); refine hK.out _ _ (hext _ hg8 hS) ?_; intro hS; clear hkeep hext hK b8; (try simp only [Act.put, List.setIfInBounds_toArray, List.set_cons_zero, List.set_cons_succ]))
          refine wpAnyH_done (by kernel_rfl) ?_ _
          go_wp2_with fail
          go_meet
          case rel => exact ⟨g8, A7, c7, rfl, hS, hg8, d8, o8⟩
      · (refine step_new0 rfl (some 30) rfl 49 28 rfl new_ev ?_; intro g2 w' hg hx b2; have hg2 := Nat.le_trans (Ext.size hS) hg;  clear hg; refine hK.out _ _ (Ext.tr hS hx) ?_; intro hS; clear hx hK; (try simp only [Act.put, List.setIfInBounds_toArray, List.set_cons_zero, List.set_cons_succ]))
        refine wpAnyH_ready (rs := [1, 8]) (by kernel_rfl) (by simp) (AllReadyH.cons rfl (fun K hK => ?_) (AllReadyH.cons rfl (fun K hK => ?_) AllReadyH.nil))
        · (refine step_callR rfl (some 29) rfl 15 _ Try.func15 (by kernel_rfl) (by kernel_rfl) _ _ rfl #[.agg (stcells s A c)] (by simp [Act.eval, Act.put]) _ (K3.out _ (hr.ext (Ext.tr hX0 hS))) ?_; rintro e w' ⟨A1, c1, rfl, hx, o1⟩; refine ⟨_, rfl, ?_⟩; have o1 : OwnLs w' Wr.heap.size A1 s.lines c1 := own_less o1 (Ext.size hS); have b2 := Ext.blk hx b2;  refine hK.out _ _ (Ext.tr hS hx) ?_; intro hS; clear hx hK; (try simp only [Act.put, List.setIfInBounds_toArray, List.set_cons_zero, List.set_cons_succ]))
          refine wpAnyH_ready (rs := [6, 8]) (by kernel_rfl) (by simp) (AllReadyH.cons rfl (fun K hK => ?_) (AllReadyH.cons rfl (fun K hK => ?_) AllReadyH.nil))
          · (have h2 := own_new0 (s := 10) b2 hg2; refine step_append_rd rfl (some 34) rfl (.tmp 30) (.tmp 33) 49 rfl Wr.heap.size 28 _ 10 96 Try.underlying49 el_ev (.slice (some ⟨g2, 0, none⟩) 0 0) 0 [] rfl h2 Bk k ck (evCells (es.take k)) rfl (Hk.out _ (hre.ext (Ext.tr hX0 hS))) H1k.out (by simp only [maxLen]; omega) (by omega) (Ext.size hS) ?_; intro v' w' hown hgr; obtain ⟨A6, c6, rfl⟩ := own_slice hown; have o1 : OwnLs w' Wr.heap.size A1 s.lines c1 := World.ownsRow.kept o1 hgr (own_ne o1 h2 (by decide)); have hS2 : Ext Wr w' := Ext.grown hS hgr (fun r hr => own_lt h2 r hr);  have o6 := own_evs hown; clear h2 hown hgr; refine hK.out _ _ hS2 ?_; intro hS; clear hS2 hK; (try simp only [Act.put, List.setIfInBounds_toArray, List.set_cons_zero, List.set_cons_succ]); rw [Nat.zero_add])
            refine wpAnyH_ready (rs := [7, 8]) (by kernel_rfl) (by simp) (AllReadyH.cons rfl (fun K hK => ?_) (AllReadyH.cons rfl (fun K hK => ?_) AllReadyH.nil))
            · (refine step_callR rfl (some 35) rfl 28 _ Try.func28 (by kernel_rfl) (by kernel_rfl) _ _ rfl #[.agg (stcells s A1 c1), .slice A6 k c6] (by simp [Act.eval, Act.put]) _ (KF.out _ _ _ _ _ o1.rd (HtkL.out _ _ o6)) ?_; rintro e w' ⟨A7, c7, rfl, hx, o7⟩; refine ⟨_, rfl, ?_⟩; have o7 : OwnLs w' Wr.heap.size A7 sK.lines c7 := own_less o7 (Ext.size hS);  refine hK.out _ _ (Ext.tr hS hx) ?_; intro hS; clear hx hK; (try simp only [Act.put, List.setIfInBounds_toArray, List.set_cons_zero, List.set_cons_succ]))
              refine wpAnyH_ready (rs := [8]) (by kernel_rfl) (by simp) (AllReadyH.cons rfl (fun K hK => ?_) AllReadyH.nil)
              (refine step_alloc rfl (some 8) rfl 25 rfl _ alloc_st0 ?_; intro g8 w' hg hx b8; have hg8 := Nat.le_trans (Ext.size hS) hg; have o7 := OwnLs.mono o7 hx;  clear hg; refine hK.out _ _ (Ext.tr hS hx) ?_; intro hS; clear hx hK; (try simp only [Act.put, List.setIfInBounds_toArray, List.set_cons_zero, List.set_cons_succ]))
              refine wpAnyH_ready (rs := [9]) (by kernel_rfl) (by simp) (AllReadyH.cons rfl (fun K hK => ?_) AllReadyH.nil)
              (refine step_store rfl none rfl 25 (.tmp 8) (.tmp 35) rfl g8 25 #[.int .i64 0, .int .i64 0, .int .i64 0, .int .i64 0, .int .i64 0, .slice none 0 0, .int .i64 0, .int .i64 0, .int .i64 0, .int .i64 0, .int .i64 0, .string ⟨#[]⟩] (stcells sK A7 c7) rfl rfl b8 (by rw [stc_size]; rfl) (stc_one _ _ _) 12 st_wide (stc_size _ _ _) ?_; intro w' d8 hkeep hext; have o8 : OwnLs w' Wr.heap.size A7 sK.lines c7 := own_keepB o7 hkeep (own_apart o7 b8 _ _); refine hK.out _ _ (hext _ hg8 hS) ?_; intro hS; clear hkeep hext hK b8; (try simp only [Act.put, List.setIfInBounds_toArray, List.set_cons_zero, List.set_cons_succ]))
              refine wpAnyH_done (by kernel_rfl) ?_ _
              go_wp2_with fail
              go_meet
              case rel => exact ⟨g8, A7, c7, rfl, hS, hg8, d8, o8⟩
            · (refine step_alloc rfl (some 8) rfl 25 rfl _ alloc_st0 ?_; intro g8 w' hg hx b8; have hg8 := Nat.le_trans (Ext.size hS) hg; have o1 := OwnLs.mono o1 hx; have o6 := RdN.ext o6 hx;  clear hg; refine hK.out _ _ (Ext.tr hS hx) ?_; intro hS; clear hx hK; (try simp only [Act.put, List.setIfInBounds_toArray, List.set_cons_zero, List.set_cons_succ]))
              refine wpAnyH_ready (rs := [7]) (by kernel_rfl) (by simp) (AllReadyH.cons rfl (fun K hK => ?_) AllReadyH.nil)
              (refine step_callR rfl (some 35) rfl 28 _ Try.func28 (by kernel_rfl) (by kernel_rfl) _ _ rfl #[.agg (stcells s A1 c1), .slice A6 k c6] (by simp [Act.eval, Act.put]) _ (KF.out _ _ _ _ _ o1.rd (HtkL.out _ _ o6)) ?_; rintro e w' ⟨A7, c7, rfl, hx, o7⟩; refine ⟨_, rfl, ?_⟩; have o7 : OwnLs w' Wr.heap.size A7 sK.lines c7 := own_less o7 (Ext.size hS); have b8 := Ext.blk hx b8;  refine hK.out _ _ (Ext.tr hS hx) ?_; intro hS; clear hx hK; (try simp only [Act.put, List.setIfInBounds_toArray, List.set_cons_zero, List.set_cons_succ]))
              refine wpAnyH_ready (rs := [9]) (by kernel_rfl) (by simp) (AllReadyH.cons rfl (fun K hK => ?_) AllReadyH.nil)
              (refine step_store rfl none rfl 25 (.tmp 8) (.tmp 35) rfl g8 25 #[.int .i64 0, .int .i64 0, .int .i64 0, .int .i64 0, .int .i64 0, .slice none 0 0, .int .i64 0, .int .i64 0, .int .i64 0, .int .i64 0, .int .i64 0, .string ⟨#[]⟩] (stcells sK A7 c7) rfl rfl b8 (by rw [stc_size]; rfl) (stc_one _ _ _) 12 st_wide (stc_size _ _ _) ?_; intro w' d8 hkeep hext; have o8 : OwnLs w' Wr.heap.size A7 sK.lines c7 := own_keepB o7 hkeep (own_apart o7 b8 _ _); refine hK.out _ _ (hext _ hg8 hS) ?_; intro hS; clear hkeep hext hK b8; (try simp only [Act.put, List.setIfInBounds_toArray, List.set_cons_zero, List.set_cons_succ]))
              refine wpAnyH_done (by kernel_rfl) ?_ _
              go_wp2_with fail
              go_meet
              case rel => exact ⟨g8, A7, c7, rfl, hS, hg8, d8, o8⟩
          · (refine step_alloc rfl (some 8) rfl 25 rfl _ alloc_st0 ?_; intro g8 w' hg hx b8; have hg8 := Nat.le_trans (Ext.size hS) hg; have o1 := OwnLs.mono o1 hx; have hne : g8 ≠ g2 := (by have := b2.lt; omega); have b2 := Ext.blk hx b2;  clear hg; refine hK.out _ _ (Ext.tr hS hx) ?_; intro hS; clear hx hK; (try simp only [Act.put, List.setIfInBounds_toArray, List.set_cons_zero, List.set_cons_succ]))
            refine wpAnyH_ready (rs := [6]) (by kernel_rfl) (by simp) (AllReadyH.cons rfl (fun K hK => ?_) AllReadyH.nil)
            (have h2 := own_new0 (s := 10) b2 hg2; refine step_append_rd rfl (some 34) rfl (.tmp 30) (.tmp 33) 49 rfl Wr.heap.size 28 _ 10 96 Try.underlying49 el_ev (.slice (some ⟨g2, 0, none⟩) 0 0) 0 [] rfl h2 Bk k ck (evCells (es.take k)) rfl (Hk.out _ (hre.ext (Ext.tr hX0 hS))) H1k.out (by simp only [maxLen]; omega) (by omega) (Ext.size hS) ?_; intro v' w' hown hgr; obtain ⟨A6, c6, rfl⟩ := own_slice hown; have o1 : OwnLs w' Wr.heap.size A1 s.lines c1 := World.ownsRow.kept o1 hgr (own_ne o1 h2 (by decide)); have hS2 : Ext Wr w' := Ext.grown hS hgr (fun r hr => own_lt h2 r hr); have b8 := BlkG b8 hgr (fun h => hne (by injection h));  have o6 := own_evs hown; clear h2 hown hgr; refine hK.out _ _ hS2 ?_; intro hS; clear hS2 hK; (try simp only [Act.put, List.setIfInBounds_toArray, List.set_cons_zero, List.set_cons_succ]); rw [Nat.zero_add])
            refine wpAnyH_ready (rs := [7]) (by kernel_rfl) (by simp) (AllReadyH.cons rfl (fun K hK => ?_) AllReadyH.nil)
            (refine step_callR rfl (some 35) rfl 28 _ Try.func28 (by kernel_rfl) (by kernel_rfl) _ _ rfl #[.agg (stcells s A1 c1), .slice A6 k c6] (by simp [Act.eval, Act.put]) _ (KF.out _ _ _ _ _ o1.rd (HtkL.out _ _ o6)) ?_; rintro e w' ⟨A7, c7, rfl, hx, o7⟩; refine ⟨_, rfl, ?_⟩; have o7 : OwnLs w' Wr.heap.size A7 sK.lines c7 := own_less o7 (Ext.size hS); have b8 := Ext.blk hx b8;  refine hK.out _ _ (Ext.tr hS hx) ?_; intro hS; clear hx hK; (try simp only [Act.put, List.setIfInBounds_toArray, List.set_cons_zero, List.set_cons_succ]))
            refine wpAnyH_ready (rs := [9]) (by kernel_rfl) (by simp) (AllReadyH.cons rfl (fun K hK => ?_) AllReadyH.nil)
            (refine step_store rfl none rfl 25 (.tmp 8) (.tmp 35) rfl g8 25 #[.int .i64 0, .int .i64 0, .int .i64 0, .int .i64 0, .int .i64 0, .slice none 0 0, .int .i64 0, .int .i64 0, .int .i64 0, .int .i64 0, .int .i64 0, .string ⟨#[]⟩] (stcells sK A7 c7) rfl rfl b8 (by rw [stc_size]; rfl) (stc_one _ _ _) 12 st_wide (stc_size _ _ _) ?_; intro w' d8 hkeep hext; have o8 : OwnLs w' Wr.heap.size A7 sK.lines c7 := own_keepB o7 hkeep (own_apart o7 b8 _ _); refine hK.out _ _ (hext _ hg8 hS) ?_; intro hS; clear hkeep hext hK b8; (try simp only [Act.put, List.setIfInBounds_toArray, List.set_cons_zero, List.set_cons_succ]))
            refine wpAnyH_done (by kernel_rfl) ?_ _
            go_wp2_with fail
            go_meet
            case rel => exact ⟨g8, A7, c7, rfl, hS, hg8, d8, o8⟩
        · (refine step_alloc rfl (some 8) rfl 25 rfl _ alloc_st0 ?_; intro g8 w' hg hx b8; have hg8 := Nat.le_trans (Ext.size hS) hg; have hne : g8 ≠ g2 := (by have := b2.lt; omega); have b2 := Ext.blk hx b2;  clear hg; refine hK.out _ _ (Ext.tr hS hx) ?_; intro hS; clear hx hK; (try simp only [Act.put, List.setIfInBounds_toArray, List.set_cons_zero, List.set_cons_succ]))
          refine wpAnyH_ready (rs := [1]) (by kernel_rfl) (by simp) (AllReadyH.cons rfl (fun K hK => ?_) AllReadyH.nil)
          (refine step_callR rfl (some 29) rfl 15 _ Try.func15 (by kernel_rfl) (by kernel_rfl) _ _ rfl #[.agg (stcells s A c)] (by simp [Act.eval, Act.put]) _ (K3.out _ (hr.ext (Ext.tr hX0 hS))) ?_; rintro e w' ⟨A1, c1, rfl, hx, o1⟩; refine ⟨_, rfl, ?_⟩; have o1 : OwnLs w' Wr.heap.size A1 s.lines c1 := own_less o1 (Ext.size hS); have b2 := Ext.blk hx b2; have b8 := Ext.blk hx b8;  refine hK.out _ _ (Ext.tr hS hx) ?_; intro hS; clear hx hK; (try simp only [Act.put, List.setIfInBounds_toArray, List.set_cons_zero, List.set_cons_succ]))
          refine wpAnyH_ready (rs := [6]) (by kernel_rfl) (by simp) (AllReadyH.cons rfl (fun K hK => ?_) AllReadyH.nil)
          (have h2 := own_new0 (s := 10) b2 hg2; refine step_append_rd rfl (some 34) rfl (.tmp 30) (.tmp 33) 49 rfl Wr.heap.size 28 _ 10 96 Try.underlying49 el_ev (.slice (some ⟨g2, 0, none⟩) 0 0) 0 [] rfl h2 Bk k ck (evCells (es.take k)) rfl (Hk.out _ (hre.ext (Ext.tr hX0 hS))) H1k.out (by simp only [maxLen]; omega) (by omega) (Ext.size hS) ?_; intro v' w' hown hgr; obtain ⟨A6, c6, rfl⟩ := own_slice hown; have o1 : OwnLs w' Wr.heap.size A1 s.lines c1 := World.ownsRow.kept o1 hgr (own_ne o1 h2 (by decide)); have hS2 : Ext Wr w' := Ext.grown hS hgr (fun r hr => own_lt h2 r hr); have b8 := BlkG b8 hgr (fun h => hne (by injection h));  have o6 := own_evs hown; clear h2 hown hgr; refine hK.out _ _ hS2 ?_; intro hS; clear hS2 hK; (try simp only [Act.put, List.setIfInBounds_toArray, List.set_cons_zero, List.set_cons_succ]); rw [Nat.zero_add])
          refine wpAnyH_ready (rs := [7]) (by kernel_rfl) (by simp) (AllReadyH.cons rfl (fun K hK => ?_) AllReadyH.nil)
          (refine step_callR rfl (some 35) rfl 28 _ Try.func28 (by kernel_rfl) (by kernel_rfl) _ _ rfl #[.agg (stcells s A1 c1), .slice A6 k c6] (by simp [Act.eval, Act.put]) _ (KF.out _ _ _ _ _ o1.rd (HtkL.out _ _ o6)) ?_; rintro e w' ⟨A7, c7, rfl, hx, o7⟩; refine ⟨_, rfl, ?_⟩; have o7 : OwnLs w' Wr.heap.size A7 sK.lines c7 := own_less o7 (Ext.size hS); have b8 := Ext.blk hx b8;  refine hK.out _ _ (Ext.tr hS hx) ?_; intro hS; clear hx hK; (try simp only [Act.put, List.setIfInBounds_toArray, List.set_cons_zero, List.set_cons_succ]))
          refine wpAnyH_ready (rs := [9]) (by kernel_rfl) (by simp) (AllReadyH.cons rfl (fun K hK => ?_) AllReadyH.nil)
          (refine step_store rfl none rfl 25 (.tmp 8) (.tmp 35) rfl g8 25 #[.int .i64 0, .int .i64 0, .int .i64 0, .int .i64 0, .int .i64 0, .slice none 0 0, .int .i64 0, .int .i64 0, .int .i64 0, .int .i64 0, .int .i64 0, .string ⟨#[]⟩] (stcells sK A7 c7) rfl rfl b8 (by rw [stc_size]; rfl) (stc_one _ _ _) 12 st_wide (stc_size _ _ _) ?_; intro w' d8 hkeep hext; have o8 : OwnLs w' Wr.heap.size A7 sK.lines c7 := own_keepB o7 hkeep (own_apart o7 b8 _ _); refine hK.out _ _ (hext _ hg8 hS) ?_; intro hS; clear hkeep hext hK b8; (try simp only [Act.put, List.setIfInBounds_toArray, List.set_cons_zero, List.set_cons_succ]))
          refine wpAnyH_done (by kernel_rfl) ?_ _
          go_wp2_with fail
          go_meet
          case rel => exact ⟨g8, A7, c7, rfl, hS, hg8, d8, o8⟩
      · (refine step_alloc rfl (some 8) rfl 25 rfl _ alloc_st0 ?_; intro g8 w' hg hx b8; have hg8 := Nat.le_trans (Ext.size hS) hg;  clear hg; refine hK.out _ _ (Ext.tr hS hx) ?_; intro hS; clear hx hK; (try simp only [Act.put, List.setIfInBounds_toArray, List.set_cons_zero, List.set_cons_succ]))
        refine wpAnyH_ready (rs := [1, 2]) (by kernel_rfl) (by simp) (AllReadyH.cons rfl (fun K hK => ?_) (AllReadyH.cons rfl (fun K hK => ?_) AllReadyH.nil))
        · (refine step_callR rfl (some 29) rfl 15 _ Try.func15 (by kernel_rfl) (by kernel_rfl) _ _ rfl #[.agg (stcells s A c)] (by simp [Act.eval, Act.put]) _ (K3.out _ (hr.ext (Ext.tr hX0 hS))) ?_; rintro e w' ⟨A1, c1, rfl, hx, o1⟩; refine ⟨_, rfl, ?_⟩; have o1 : OwnLs w' Wr.heap.size A1 s.lines c1 := own_less o1 (Ext.size hS); have b8 := Ext.blk hx b8;  refine hK.out _ _ (Ext.tr hS hx) ?_; intro hS; clear hx hK; (try simp only [Act.put, List.setIfInBounds_toArray, List.set_cons_zero, List.set_cons_succ]))
          refine wpAnyH_ready (rs := [2]) (by kernel_rfl) (by simp) (AllReadyH.cons rfl (fun K hK => ?_) AllReadyH.nil)
          (refine step_new0 rfl (some 30) rfl 49 28 rfl new_ev ?_; intro g2 w' hg hx b2; have hg2 := Nat.le_trans (Ext.size hS) hg; have o1 := OwnLs.mono o1 hx; have hne : g8 ≠ g2 := (by have := b8.lt; omega); have b8 := Ext.blk hx b8;  clear hg; refine hK.out _ _ (Ext.tr hS hx) ?_; intro hS; clear hx hK; (try simp only [Act.put, List.setIfInBounds_toArray, List.set_cons_zero, List.set_cons_succ]))
          refine wpAnyH_ready (rs := [6]) (by kernel_rfl) (by simp) (AllReadyH.cons rfl (fun K hK => ?_) AllReadyH.nil)
          (have h2 := own_new0 (s := 10) b2 hg2; refine step_append_rd rfl (some 34) rfl (.tmp 30) (.tmp 33) 49 rfl Wr.heap.size 28 _ 10 96 Try.underlying49 el_ev (.slice (some ⟨g2, 0, none⟩) 0 0) 0 [] rfl h2 Bk k ck (evCells (es.take k)) rfl (Hk.out _ (hre.ext (Ext.tr hX0 hS))) H1k.out (by simp only [maxLen]; omega) (by omega) (Ext.size hS) ?_; intro v' w' hown hgr; obtain ⟨A6, c6, rfl⟩ := own_slice hown; have o1 : OwnLs w' Wr.heap.size A1 s.lines c1 := World.ownsRow.kept o1 hgr (own_ne o1 h2 (by decide)); have hS2 : Ext Wr w' := Ext.grown hS hgr (fun r hr => own_lt h2 r hr); have b8 := BlkG b8 hgr (fun h => hne (by injection h));  have o6 := own_evs hown; clear h2 hown hgr; refine hK.out _ _ hS2 ?_; intro hS; clear hS2 hK; (try simp only [Act.put, List.setIfInBounds_toArray, List.set_cons_zero, List.set_cons_succ]); rw [Nat.zero_add])
          refine wpAnyH_ready (rs := [7]) (by kernel_rfl) (by simp) (AllReadyH.cons rfl (fun K hK => ?_) AllReadyH.nil)
          (refine step_callR rfl (some 35) rfl 28 _ Try.func28 (by kernel_rfl) (by kernel_rfl) _ _ rfl #[.agg (stcells s A1 c1), .slice A6 k c6] (by simp [Act.eval, Act.put]) _ (KF.out _ _ _ _ _ o1.rd (HtkL.out _ _ o6)) ?_; rintro e w' ⟨A7, c7, rfl, hx, o7⟩; refine ⟨_, rfl, ?_⟩; have o7 : OwnLs w' Wr.heap.size A7 sK.lines c7 := own_less o7 (Ext.size hS); have b8 := Ext.blk hx b8;  refine hK.out _ _ (Ext.tr hS hx) ?_; intro hS; clear hx hK; (try simp only [Act.put, List.setIfInBounds_toArray, List.set_cons_zero, List.set_cons_succ]))
          refine wpAnyH_ready (rs := [9]) (by kernel_rfl) (by simp) (AllReadyH.cons rfl (fun K hK => ?_) AllReadyH.nil)
          (refine step_store rfl none rfl 25 (.tmp 8) (.tmp 35) rfl g8 25 #[.int .i64 0, .int .i64 0, .int .i64 0, .int .i64 0, .int .i64 0, .slice none 0 0, .int .i64 0, .int .i64 0, .int .i64 0, .int .i64 0, .int .i64 0, .string ⟨#[]⟩] (stcells sK A7 c7) rfl rfl b8 (by rw [stc_size]; rfl) (stc_one _ _ _) 12 st_wide (stc_size _ _ _) ?_; intro w' d8 hkeep hext; have o8 : OwnLs w' Wr.heap.size A7 sK.lines c7 := own_keepB o7 hkeep (own_apart o7 b8 _ _); refine hK.out _ _ (hext _ hg8 hS) ?_; intro hS; clear hkeep hext hK b8; (try simp only [Act.put, List.setIfInBounds_toArray, List.set_cons_zero, List.set_cons_succ]))
          refine wpAnyH_done (by kernel_rfl) ?_ _
          go_wp2_with fail
          go_meet
          case rel => exact ⟨g8, A7, c7, rfl, hS, hg8, d8, o8⟩
        · (refine step_new0 rfl (some 30) rfl 49 28 rfl new_ev ?_; intro g2 w' hg hx b2; have hg2 := Nat.le_trans (Ext.size hS) hg; have hne : g8 ≠ g2 := (by have := b8.lt; omega); have b8 := Ext.blk hx b8;  clear hg; refine hK.out _ _ (Ext.tr hS hx) ?_; intro hS; clear hx hK; (try simp only [Act.put, List.setIfInBounds_toArray, List.set_cons_zero, List.set_cons_succ]))
          refine wpAnyH_ready (rs := [1]) (by kernel_rfl) (by simp) (AllReadyH.cons rfl (fun K hK => ?_) AllReadyH.nil)
          (refine step_callR rfl (some 29) rfl 15 _ Try.func15 (by kernel_rfl) (by kernel_rfl) _ _ rfl #[.agg (stcells s A c)] (by simp [Act.eval, Act.put]) _ (K3.out _ (hr.ext (Ext.tr hX0 hS))) ?_; rintro e w' ⟨A1, c1, rfl, hx, o1⟩; refine ⟨_, rfl, ?_⟩; have o1 : OwnLs w' Wr.heap.size A1 s.lines c1 := own_less o1 (Ext.size hS); have b2 := Ext.blk hx b2; have b8 := Ext.blk hx b8;  refine hK.out _ _ (Ext.tr hS hx) ?_; intro hS; clear hx hK; (try simp only [Act.put, List.setIfInBounds_toArray, List.set_cons_zero, List.set_cons_succ]))
          refine wpAnyH_ready (rs := [6]) (by kernel_rfl) (by simp) (AllReadyH.cons rfl (fun K hK => ?_) AllReadyH.nil)
          (have h2 := own_new0 (s := 10) b2 hg2; refine step_append_rd rfl (some 34) rfl (.tmp 30) (.tmp 33) 49 rfl Wr.heap.size 28 _ 10 96 Try.underlying49 el_ev (.slice (some ⟨g2, 0, none⟩) 0 0) 0 [] rfl h2 Bk k ck (evCells (es.take k)) rfl (Hk.out _ (hre.ext (Ext.tr hX0 hS))) H1k.out (by simp only [maxLen]; omega) (by omega) (Ext.size hS) ?_; intro v' w' hown hgr; obtain ⟨A6, c6, rfl⟩ := own_slice hown; have o1 : OwnLs w' Wr.heap.size A1 s.lines c1 := World.ownsRow.kept o1 hgr (own_ne o1 h2 (by decide)); have hS2 : Ext Wr w' := Ext.grown hS hgr (fun r hr => own_lt h2 r hr); have b8 := BlkG b8 hgr (fun h => hne (by injection h));  have o6 := own_evs hown; clear h2 hown hgr; refine hK.out _ _ hS2 ?_; intro hS; clear hS2 hK; (try simp only [Act.put, List.setIfInBounds_toArray, List.set_cons_zero, List.set_cons_succ]); rw [Nat.zero_add])
          refine wpAnyH_ready (rs := [7]) (by kernel_rfl) (by simp) (AllReadyH.cons rfl (fun K hK => ?_) AllReadyH.nil)
          (refine step_callR rfl (some 35) rfl 28 _ Try.func28 (by kernel_rfl) (by kernel_rfl) _ _ rfl #[.agg (stcells s A1 c1), .slice A6 k c6] (by simp [Act.eval, Act.put]) _ (KF.out _ _ _ _ _ o1.rd (HtkL.out _ _ o6)) ?_; rintro e w' ⟨A7, c7, rfl, hx, o7⟩; refine ⟨_, rfl, ?_⟩; have o7 : OwnLs w' Wr.heap.size A7 sK.lines c7 := own_less o7 (Ext.size hS); have b8 := Ext.blk hx b8;  refine hK.out _ _ (Ext.tr hS hx) ?_; intro hS; clear hx hK; (try simp only [Act.put, List.setIfInBounds_toArray, List.set_cons_zero, List.set_cons_succ]))
          refine wpAnyH_ready (rs := [9]) (by kernel_rfl) (by simp) (AllReadyH.cons rfl (fun K hK => ?_) AllReadyH.nil)
          (refine step_store rfl none rfl 25 (.tmp 8) (.tmp 35) rfl g8 25 #[.int .i64 0, .int .i64 0, .int .i64 0, .int .i64 0, .int .i64 0, .slice none 0 0, .int .i64 0, .int .i64 0, .int .i64 0, .int .i64 0, .int .i64 0, .string ⟨#[]⟩] (stcells sK A7 c7) rfl rfl b8 (by rw [stc_size]; rfl) (stc_one _ _ _) 12 st_wide (stc_size _ _ _) ?_; intro w' d8 hkeep hext; have o8 : OwnLs w' Wr.heap.size A7 sK.lines c7 := own_keepB o7 hkeep (own_apart o7 b8 _ _); refine hK.out _ _ (hext _ hg8 hS) ?_; intro hS; clear hkeep hext hK b8; (try simp only [Act.put, List.setIfInBounds_toArray, List.set_cons_zero, List.set_cons_succ]))
          refine wpAnyH_done (by kernel_rfl) ?_ _
          go_wp2_with fail
          go_meet
          case rel => exact ⟨g8, A7, c7, rfl, hS, hg8, d8, o8⟩
    case rest =>
      obtain ⟨g8, A9, c9, rfl, hx8, hg8, b8, o8⟩ := hcut
      have b7c := BlkE b7 hx8
      have o7c := o7.ext hx8
      have hXc := Ext.tr hX0 hx8
      go_upto_region 7 with fail
      refine wp_region_held_drew (S := fun w' => Ext wc w') (by kernel_rfl) (ExtD (Ext.rfl' _)) (fun hS => ?_)
      refine takeD (some 36) (i := 0) (v := .agg (stcells sK A9 c9)) rfl rfl (by kernel_rfl) (by kernel_rfl) (by kernel_rfl) (fun _ _ _ h => h) (yields_row (by kernel_rfl) 25 (.tmp 8) rfl g8 25 (stcells sK A9 c9) 12 rfl (fun w hw => Ext.blk hw b8) st_wide (stc_size _ _ _)) hS ?_; (try simp only [Act.put, List.setIfInBounds_toArray, List.set_cons_zero, List.set_cons_succ])
      refine takeD (some 43) (i := 7) (v := .agg (stcells sF A8 c8)) rfl rfl (by kernel_rfl) (by kernel_rfl) (by kernel_rfl) (fun _ _ _ h => h) (yields_row (by kernel_rfl) 25 (.tmp 7) rfl g7 25 (stcells sF A8 c8) 12 rfl (fun w hw => Ext.blk hw b7c) st_wide (stc_size _ _ _)) hS ?_; (try simp only [Act.put, List.setIfInBounds_toArray, List.set_cons_zero, List.set_cons_succ])
      refine takeD (some 38) (i := 2) (v := .slice B n cb) rfl rfl (by kernel_rfl) (by kernel_rfl) (by kernel_rfl) (fun _ _ _ h => h) (Or.inl ⟨by kernel_rfl, fun _ _ => rfl⟩) hS ?_; (try simp only [Act.put, List.setIfInBounds_toArray, List.set_cons_zero, List.set_cons_succ])
      refine takeD (some 39) (i := 3) (v := .int .i64 (k : Nat)) rfl rfl (by kernel_rfl) (by kernel_rfl) (by kernel_rfl) (fun _ _ _ h => h) (Or.inl ⟨by kernel_rfl, fun _ _ => rfl⟩) hS ?_; (try simp only [Act.put, List.setIfInBounds_toArray, List.set_cons_zero, List.set_cons_succ])
      refine takeD (some 40) (i := 4) (v := .slice Bl (n - k) cl) rfl rfl (by kernel_rfl) (by kernel_rfl) (by kernel_rfl) (fun _ _ _ h => h) (yields_slice 49 elem_evE (by kernel_rfl) (.tmp 38) (some (.tmp 39)) none rfl _ _ _ _ rfl rfl rfl Hrun2.out) hS ?_; (try simp only [Act.put, List.setIfInBounds_toArray, List.set_cons_zero, List.set_cons_succ])
      refine wpAnyH_ready (rs := [1]) (by kernel_rfl) (by simp) (AllReadyH.cons rfl (fun K hK => ?_) AllReadyH.nil)
      (refine step_new0 rfl (some 37) rfl 49 28 rfl new_ev ?_; intro g2 w' hg hx b2; have hg2 := Nat.le_trans (Ext.size hS) hg; clear hg; refine hK.out _ _ (Ext.tr hS hx) ?_; intro hS; clear hx hK; (try simp only [Act.put, List.setIfInBounds_toArray, List.set_cons_zero, List.set_cons_succ]))
      refine wpAnyH_ready (rs := [5]) (by kernel_rfl) (by simp) (AllReadyH.cons rfl (fun K hK => ?_) AllReadyH.nil)
      (have h2 := own_new0 (s := 10) b2 hg2; refine step_append_rd rfl (some 41) rfl (.tmp 37) (.tmp 40) 49 rfl wc.heap.size 28 _ 10 96 Try.underlying49 el_ev (.slice (some ⟨g2, 0, none⟩) 0 0) 0 [] rfl h2 Bl (n - k) cl (evCells (es.drop k)) rfl (Hl.out _ (hre.ext (Ext.tr hXc hS))) H1d.out (by simp only [maxLen]; omega) (by omega) (Ext.size hS) ?_; intro v' w' hown hgr; obtain ⟨A6, c6, rfl⟩ := own_slice hown; have hS2 : Ext wc w' := Ext.grown hS hgr (fun r hr => own_lt h2 r hr); have o6 := own_evs hown; clear h2 hown hgr; refine hK.out _ _ hS2 ?_; intro hS; clear hS2 hK; (try simp only [Act.put, List.setIfInBounds_toArray, List.set_cons_zero, List.set_cons_succ]); rw [Nat.zero_add])
      refine wpAnyH_ready (rs := [6]) (by kernel_rfl) (by simp) (AllReadyH.cons rfl (fun K hK => ?_) AllReadyH.nil)
      (refine step_callR rfl (some 42) rfl 28 _ Try.func28 (by kernel_rfl) (by kernel_rfl) _ _ rfl #[.agg (stcells sK A9 c9), .slice A6 (n - k) c6] (by simp [Act.eval, Act.put]) _ (KG.out _ _ _ _ _ (o8.rd.ext hS) (HdrL.out _ _ o6)) ?_; rintro e w' ⟨A7, c7, rfl, hx, o9⟩; refine ⟨_, rfl, ?_⟩; refine hK.out _ _ (Ext.tr hS hx) ?_; intro hS; clear hx hK; (try simp only [Act.put, List.setIfInBounds_toArray, List.set_cons_zero, List.set_cons_succ]))
      refine wpAnyH_ready (rs := [8]) (by kernel_rfl) (by simp) (AllReadyH.cons rfl (fun K hK => ?_) AllReadyH.nil)
      (refine step_callR rfl (some 44) rfl 23 _ Try.func23 (by kernel_rfl) (by kernel_rfl) _ _ rfl #[.agg (stcells sF A7 c7), .agg (stcells sF A8 c8)] (by simp [Act.eval, Act.put]) _ (KS0.out _ _ _ _ _ o9.rd (o7c.ext hS)) ?_; rintro e w' ⟨rfl, hx⟩; refine ⟨_, rfl, ?_⟩; refine hK.out _ _ (Ext.tr hS hx) ?_; intro hS; clear hx hK; (try simp only [Act.put, List.setIfInBounds_toArray, List.set_cons_zero, List.set_cons_succ]))
      refine takeD (some 6) (i := 9) (v := .bool true) rfl rfl (by kernel_rfl) (by kernel_rfl) (by kernel_rfl) (fun _ _ _ h => h) (Or.inl ⟨by kernel_rfl, fun _ _ => rfl⟩) hS ?_; (try simp only [Act.put, List.setIfInBounds_toArray, List.set_cons_zero, List.set_cons_succ])
      refine wpAnyH_done (by kernel_rfl) ?_ _
      go_wp2_with fail
      go_ret
      exact ⟨rfl, Ext.tr hXc hS⟩
end Go.Proofs.Ytlpjhnecihhkfaa
