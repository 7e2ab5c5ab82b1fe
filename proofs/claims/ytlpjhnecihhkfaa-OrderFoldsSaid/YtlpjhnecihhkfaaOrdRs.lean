/-
  The reference's Apply and Fold, whole.
-/
import Derived.Test.YtlpjhnecihhkfaaOrdRk
import Derived.Test.YtlpjhnecihhkfaaOrdRl
import Derived.Test.YtlpjhnecihhkfaaOrdRn
import Derived.Test.YtlpjhnecihhkfaaOrdRp
import Derived.Test.YtlpjhnecihhkfaaOrdLawD
import Derived.Test.YtlpjhnecihhkfaaOrdLawI
namespace Go.Proofs.Ytlpjhnecihhkfaa
open Go.RowKit
set_option linter.unusedVariables false
set_option linter.unusedSimpArgs false
theorem rapply_any (s : St) (e : Ev) (A : Option Addr) (c : Nat) (w : World) (hr : LsRd w A s.lines) (hn : s.lines.length ≤ 4398046510976) (hw1 : s.who.size ≤ 4611686018427387904) (hw2 : e.who.size ≤ 4611686018427387904) (hw3 : e.note.size ≤ 4611686018427387904) :
    Calls Try.prog 26 #[.agg (stcells s A c), .agg (evcells e)] w (ApPost w (apply s e).1 (apply s e).2) := by
  unfold apply
  by_cases h1 : judge s e = 1 ∨ judge s e = 2
  · rw [if_pos h1]; exact rapply_a s e A c w hr hn hw1 hw2 hw3 h1
  · rw [if_neg h1]
    by_cases h0 : judge s e = 0
    · rw [if_neg (by omega)]
      have hk := (fine_of h0).event.kind
      obtain h | h | h | h | h | h | h | h | h | h : e.kind = 1 ∨ e.kind = 2 ∨ e.kind = 3 ∨ e.kind = 4 ∨ e.kind = 5 ∨ e.kind = 6 ∨ e.kind = 7 ∨ e.kind = 8 ∨ e.kind = 9 ∨ e.kind = 10 := by omega
      · exact rapply_1 s e A c w hr hn hw1 hw2 hw3 h0 h
      · exact rapply_2 s e A c w hr hn hw1 hw2 hw3 h0 h
      · exact rapply_3 s e A c w hr hn hw1 hw2 hw3 h0 h
      · exact rapply_4 s e A c w hr hn hw1 hw2 hw3 h0 h
      · exact rapply_5 s e A c w hr hn hw1 hw2 hw3 h0 h
      · exact rapply_6 s e A c w hr hn hw1 hw2 hw3 h0 h
      · exact rapply_7 s e A c w hr hn hw1 hw2 hw3 h0 h
      · exact rapply_8 s e A c w hr hn hw1 hw2 hw3 h0 h
      · exact rapply_9 s e A c w hr hn hw1 hw2 hw3 h0 h
      · exact rapply_10 s e A c w hr hn hw1 hw2 hw3 h0 h
    · rw [if_pos (by omega)]
      have hv := judge_valid (s := s) (e := e) (by omega)
      have h2 := hv.events
      have h3 := hv.refused
      exact rapply_b s e A c w hr hn hw1 hw2 hw3 (by omega) h2 (by omega)
def RoR (w : World) (G : Nat) (s : St) (es : List Ev) (c11 : Value) (wr : World) : Prop :=
  ∃ (k : Nat) (A : Option Addr) (c : Nat), c11 = .int .i64 (k : Nat) ∧ k ≤ es.length ∧ Ext w wr ∧ Blk wr (w.heap.size + 1) 25 #[.int .i64 0, .int .i64 0, .int .i64 0, .int .i64 0, .int .i64 0, .slice none 0 0, .int .i64 0, .int .i64 0, .int .i64 0, .int .i64 0, .int .i64 0, .string ⟨#[]⟩] ∧ Blk wr G 25 (stcells (fold s (es.take k)) A c) ∧ OwnLs wr w.heap.size A (fold s (es.take k)).lines c
set_option maxRecDepth 100000 in
set_option maxHeartbeats 4000000 in
theorem rfold_any (s : St) (es : List Ev) (A B : Option Addr) (c cb : Nat) (w : World) (hr : LsRd w A s.lines) (hre : EsRd w B es) (hs : StSm s) (hes : ∀ e ∈ es, EvSm e) (hen : es.length ≤ 4611686018427387904) :
    Calls Try.prog 29 #[.agg (stcells s A c), .slice B es.length cb] w (FoPost w (fold s es)) := by
  have K3 := Lib.hid fun W (h : LsRd W A s.lines) => scopy_any s A c W h (by have := hs.1; omega)
  have Hs := Lib.hid hs
  have Hes := Lib.hid hes
  unfold CopPost at K3
  obtain ⟨n, hnn⟩ : ∃ n, n = es.length := ⟨_, rfl⟩
  rw [← hnn] at hen ⊢
  have Hn := Lib.hid hnn
  clear hnn hs hes
  unfold FoPost
  go_enter Try.func29, Try.ntmps29
  go_wp2_with (first
    | (with_reducible refine wpL_load_row rfl 25 (.tmp 2) rfl _ 25 _ 12 rfl (BlkA (BlkN rfl)) st_wide (stc_size _ _ _) ?_)
    | (go_at_call 15; (with_reducible refine (K3.out _ (hr.ext exA)).mono ?_); rintro e w1 ⟨A1, c1, rfl, hx1, ho1⟩; have b2 : Blk w1 (w.heap.size + 1) 25 #[.int .i64 0, .int .i64 0, .int .i64 0, .int .i64 0, .int .i64 0, .slice none 0 0, .int .i64 0, .int .i64 0, .int .i64 0, .int .i64 0, .int .i64 0, .string ⟨#[]⟩] := BlkE (BlkN (by simp)) hx1; have hG : w.heap.size + 1 + 1 ≤ w1.heap.size := (by have := hx1.size; simpa using this))
    | (with_reducible refine wpL_store_row rfl 25 (.tmp 5) (.tmp 8) rfl _ 25 _ _ rfl rfl (BlkN rfl) ((stc_size _ _ _).trans (st_size' _ _ _ _ _ _ _ _ _ _ _ _ _ _).symm) (stc_one _ _ _) 12 st_wide (stc_size _ _ _) ?_))
  have b5 := Blk.setRow_ (ds := stcells s A1 c1) (BlkN (w := w1) (cs := #[.int .i64 0, .int .i64 0, .int .i64 0, .int .i64 0, .int .i64 0, .slice none 0 0, .int .i64 0, .int .i64 0, .int .i64 0, .int .i64 0, .int .i64 0, .string ⟨#[]⟩]) (t := 25) rfl)
  have b4 : Blk ((w1.alloc (.cells #[.int .i64 0, .int .i64 0, .int .i64 0, .int .i64 0, .int .i64 0, .slice none 0 0, .int .i64 0, .int .i64 0, .int .i64 0, .int .i64 0, .int .i64 0, .string ⟨#[]⟩] 25)).setRow w1.heap.size (stcells s A1 c1)) (w.heap.size + 1) 25 #[.int .i64 0, .int .i64 0, .int .i64 0, .int .i64 0, .int .i64 0, .slice none 0 0, .int .i64 0, .int .i64 0, .int .i64 0, .int .i64 0, .int .i64 0, .string ⟨#[]⟩] := BlkR (by omega) (BlkA b2)
  have o5 : OwnLs ((w1.alloc (.cells #[.int .i64 0, .int .i64 0, .int .i64 0, .int .i64 0, .int .i64 0, .slice none 0 0, .int .i64 0, .int .i64 0, .int .i64 0, .int .i64 0, .int .i64 0, .string ⟨#[]⟩] 25)).setRow w1.heap.size (stcells s A1 c1)) w.heap.size A1 s.lines c1 := own_less (OwnRw (ds := stcells s A1 c1) (own_apart (OwnA (o := .cells #[.int .i64 0, .int .i64 0, .int .i64 0, .int .i64 0, .int .i64 0, .slice none 0 0, .int .i64 0, .int .i64 0, .int .i64 0, .int .i64 0, .int .i64 0, .string ⟨#[]⟩] 25) ho1) (BlkN rfl)) (OwnA (o := .cells #[.int .i64 0, .int .i64 0, .int .i64 0, .int .i64 0, .int .i64 0, .slice none 0 0, .int .i64 0, .int .i64 0, .int .i64 0, .int .i64 0, .int .i64 0, .string ⟨#[]⟩] 25) ho1)) (by simp; omega)
  have hX5 : Ext w ((w1.alloc (.cells #[.int .i64 0, .int .i64 0, .int .i64 0, .int .i64 0, .int .i64 0, .slice none 0 0, .int .i64 0, .int .i64 0, .int .i64 0, .int .i64 0, .int .i64 0, .string ⟨#[]⟩] 25)).setRow w1.heap.size (stcells s A1 c1)) := exA
  clear b2 ho1 hx1
  generalize w1.heap.size = G at *
  go_loopw [11] (fun c11 wr => RoR w G s es c11 wr) (fun c11 _ => n - (intOf c11).toNat)
  case atStart => exact ⟨0, A1, c1, rfl, by omega, hX5, b4, b5, o5⟩
  case round =>
    obtain ⟨k, A2, c2, rfl, hk, hx, hb4, hb5, ho⟩ := hrel
    rw [← Hn.out] at hk
    clear b4 b5 o5 hX5
    by_cases hlt : k < n
    · obtain ⟨b, o, rfl, hc⟩ := es_at hre (show k < es.length by rw [← Hn.out]; exact hlt)
      have hft := fold_take (s := s) (show k < es.length by rw [← Hn.out]; exact hlt)
      have hse := Hes.out _ (List.getElem_mem (show k < es.length by rw [← Hn.out]; exact hlt))
      have hss := sm_fold (es.take k) Hs.out
      have Hc := Lib.hid hc
      clear hc
      generalize es[k]'(by rw [← Hn.out]; exact hlt) = e at *
      generalize hsk : fold s (es.take k) = sk at *
      clear hsk
      have KA := Lib.hid fun W (h : LsRd W A2 sk.lines) => rapply_any sk e A2 c2 W h hss.1 hss.2 hse.1 hse.2
      generalize hs3 : (apply sk e).1 = s3 at *
      generalize (apply sk e).2 = why at *
      clear hs3 hss hse
      have Hft := Lib.hid hft
      clear hft
      have hkn : (k : Int) < (n : Int) := by omega
      have hk0 : (0 : Int) ≤ (k : Int) := by omega
      obtain ⟨ek, eo, ei, eq, ep, ec, et, ew, em, en⟩ := e
      unfold evcells at Hc KA
      unfold ApPost at KA
      dsimp only at Hc KA
      go_upto_region 5 with fail
      refine wp_region_held_drew (S := fun w' => Ext w w') (by kernel_rfl) (ExtD hx) (fun hS => ?_)
      refine takeD (some 16) (i := 1) (v := .slice (some ⟨b, o, none⟩) n cb) rfl rfl (by kernel_rfl) (by kernel_rfl) (by kernel_rfl) (fun _ _ _ h => h) (Or.inl ⟨by kernel_rfl, fun _ _ => rfl⟩) hS ?_; (try simp only [Act.put, List.setIfInBounds_toArray, List.set_cons_zero, List.set_cons_succ])
      refine takeD (some 17) (i := 2) (v := .int .i64 (k : Nat)) rfl rfl (by kernel_rfl) (by kernel_rfl) (by kernel_rfl) (fun _ _ _ h => h) (Or.inl ⟨by kernel_rfl, fun _ _ => rfl⟩) hS ?_; (try simp only [Act.put, List.setIfInBounds_toArray, List.set_cons_zero, List.set_cons_succ])
      refine takeD (some 18) (i := 3) (v := .pointer (some ⟨b, o + k * 10, none⟩)) rfl rfl (by kernel_rfl) (by kernel_rfl) (by kernel_rfl) (fun _ _ _ h => h) (Or.inl ⟨by kernel_rfl, fun w9 hSw => by go_simp⟩) hS ?_; (try simp only [Act.put, List.setIfInBounds_toArray, List.set_cons_zero, List.set_cons_succ])
      refine takeD (some 19) (i := 4) (v := .agg #[.int .i64 ek, .int .i64 eo, .int .i64 ei, .int .i64 eq, .int .i64 ep, .int .i64 ec, .int .i64 et, .string ew, .int .i64 em, .string en]) rfl rfl (by kernel_rfl) (by kernel_rfl) (by kernel_rfl) (fun _ _ _ h => h) (Or.inl ⟨by kernel_rfl, fun w9 hSw => by have r := range_ext Hc.out hSw; have e0 : w9.cell? ⟨b, o + k * 10, none⟩ = some (.int .i64 ek) := r 0 _ rfl; have e1 : w9.cell? ⟨b, o + k * 10 + 1, none⟩ = some (.int .i64 eo) := r 1 _ rfl; have e2 : w9.cell? ⟨b, o + k * 10 + 2, none⟩ = some (.int .i64 ei) := r 2 _ rfl; have e3 : w9.cell? ⟨b, o + k * 10 + 3, none⟩ = some (.int .i64 eq) := r 3 _ rfl; have e4 : w9.cell? ⟨b, o + k * 10 + 4, none⟩ = some (.int .i64 ep) := r 4 _ rfl; have e5 : w9.cell? ⟨b, o + k * 10 + 5, none⟩ = some (.int .i64 ec) := r 5 _ rfl; have e6 : w9.cell? ⟨b, o + k * 10 + 6, none⟩ = some (.int .i64 et) := r 6 _ rfl; have e7 : w9.cell? ⟨b, o + k * 10 + 7, none⟩ = some (.string ew) := r 7 _ rfl; have e8 : w9.cell? ⟨b, o + k * 10 + 8, none⟩ = some (.int .i64 em) := r 8 _ rfl; have e9 : w9.cell? ⟨b, o + k * 10 + 9, none⟩ = some (.string en) := r 9 _ rfl; clear r; go_simp⟩) hS ?_; (try simp only [Act.put, List.setIfInBounds_toArray, List.set_cons_zero, List.set_cons_succ])
      refine wpAnyH_ready (rs := [0]) (by kernel_rfl) (by simp) (AllReadyH.cons rfl (fun K hK => ?_) AllReadyH.nil)
      (refine step_load_row rfl (some 15) rfl 25 (.tmp 5) rfl G 25 (stcells sk A2 c2) 12 rfl (BlkD hb5) st_wide (stc_size _ _ _) ?_; refine hK.out _ _ hS ?_; intro hS; clear hK; (try simp only [Act.put, List.setIfInBounds_toArray, List.set_cons_zero, List.set_cons_succ]))
      refine wpAnyH_ready (rs := [5]) (by kernel_rfl) (by simp) (AllReadyH.cons rfl (fun K hK => ?_) AllReadyH.nil)
      (refine step_callR rfl (some 20) rfl 26 _ Try.func26 (by kernel_rfl) (by kernel_rfl) _ _ rfl #[.agg (stcells sk A2 c2), .agg #[.int .i64 ek, .int .i64 eo, .int .i64 ei, .int .i64 eq, .int .i64 ep, .int .i64 ec, .int .i64 et, .string ew, .int .i64 em, .string en]] (by simp [Act.eval, Act.put]) _ (KA.out _ (ho.rd.ext (ExtD (Ext.rfl' _)))) ?_; rintro e w5 ⟨A5, c5, rfl, hx5, ho5⟩; refine ⟨_, rfl, ?_⟩; refine hK.out _ _ (Ext.tr hS hx5) ?_; intro hS; clear hK; (try simp only [Act.put, List.setIfInBounds_toArray, List.set_cons_zero, List.set_cons_succ]))
      refine takeD (some 14) (i := 6) (v := .tuple #[.agg (stcells s3 A5 c5), .int .i64 (why : Nat)]) rfl rfl (by kernel_rfl) (by kernel_rfl) (by kernel_rfl) (fun _ _ _ h => h) (Or.inl ⟨by kernel_rfl, fun _ _ => rfl⟩) hS ?_; (try simp only [Act.put, List.setIfInBounds_toArray, List.set_cons_zero, List.set_cons_succ])
      refine takeD (some 21) (i := 7) (v := .agg (stcells s3 A5 c5)) rfl rfl (by kernel_rfl) (by kernel_rfl) (by kernel_rfl) (fun _ _ _ h => h) (Or.inl ⟨by kernel_rfl, fun _ _ => rfl⟩) hS ?_; (try simp only [Act.put, List.setIfInBounds_toArray, List.set_cons_zero, List.set_cons_succ])
      refine takeD (some 22) (i := 8) (v := .int .i64 (why : Nat)) rfl rfl (by kernel_rfl) (by kernel_rfl) (by kernel_rfl) (fun _ _ _ h => h) (Or.inl ⟨by kernel_rfl, fun _ _ => rfl⟩) hS ?_; (try simp only [Act.put, List.setIfInBounds_toArray, List.set_cons_zero, List.set_cons_succ])
      refine wpAnyH_ready (rs := [9]) (by kernel_rfl) (by simp) (AllReadyH.cons rfl (fun K hK => ?_) AllReadyH.nil)
      have b5 := BlkE (BlkD hb5) hx5
      have hwG : w.heap.size + 1 + 1 ≤ G := hG
      (refine step_store rfl none rfl 25 (.tmp 5) (.tmp 21) rfl G 25 (stcells sk A2 c2) (stcells s3 A5 c5) rfl rfl b5 (by rw [stc_size, stc_size]) (stc_one _ _ _) 12 st_wide (stc_size _ _ _) ?_; intro w6 d5 hkeep hext; have o6 := own_keepB ho5 hkeep (own_apart ho5 b5 _ _); have b6 := hkeep _ _ _ (show w.heap.size + 1 ≠ G by omega) (BlkE (BlkD hb4) hx5); refine hK.out _ _ (hext _ (by omega) hS) ?_; intro hS; clear hK hkeep hext; (try simp only [Act.put, List.setIfInBounds_toArray, List.set_cons_zero, List.set_cons_succ]))
      refine wpAnyH_done (by kernel_rfl) ?_ _
      have hzw : w.heap.size ≤ wr.drew.heap.size := hx.size
      go_wp2_with fail
      refine And.intro ?_ ?_
      · exact ⟨k + 1, A5, c5, by go_num, by have := Hn.out; omega, exA, by first | exact b6 | exact BlkD b6, by rw [Hft.out]; exact d5, by rw [Hft.out]; exact own_less o6 hzw⟩
      · simp [intOf]; omega
    · obtain rfl : k = n := by omega
      have htk : es.take k = es := List.take_of_length_le (by have := Hn.out; omega)
      rw [htk] at hb5 ho
      go_wp2_with (first
        | (with_reducible refine wpL_load_row rfl 25 (.tmp 5) rfl _ 25 _ 12 rfl hb5 st_wide (stc_size _ _ _) ?_)
        | (with_reducible refine wpL_store_row rfl 25 (.tmp 4) (.tmp 24) rfl _ 25 _ _ rfl rfl hb4 ((stc_size _ _ _).trans (st_size' _ _ _ _ _ _ _ _ _ _ _ _ _ _).symm) (stc_one _ _ _) 12 st_wide (stc_size _ _ _) ?_))
      refine bodyPost_ret (res_row rfl _ _ _ 25 _ 12 rfl (Blk.setRow_ hb4) st_wide rfl) rfl ?_
      exact ⟨A2, c2, rfl, exA, OwnRw (own_apart ho hb4) ho⟩
end Go.Proofs.Ytlpjhnecihhkfaa
