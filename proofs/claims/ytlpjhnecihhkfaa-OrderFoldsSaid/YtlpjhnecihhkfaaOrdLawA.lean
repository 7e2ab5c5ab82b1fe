/-
  The walk of OrderStays.
-/
import Derived.Test.YtlpjhnecihhkfaaOrdAe
import Derived.Test.YtlpjhnecihhkfaaOpenO
namespace Go.Proofs.Ytlpjhnecihhkfaa
open Go.RowKit
set_option linter.unusedVariables false
set_option linter.unusedSimpArgs false
theorem ev_sm {e : Ev} (h : EvWf e) : EvSm e := ⟨by have := h.2.1; omega, by have := h.2.2; omega⟩
theorem st_sm {s : St} (h : StWf s) : StSm s ∨ True := .inr trivial
theorem empty_valid : validB (noSt 1) = true := by kernel_rfl
def StyR (w : World) (G : Nat) (es : List Ev) (c22 : Value) (wr : World) : Prop :=
  ∃ (k : Nat) (s : St) (A : Option Addr) (c : Nat), c22 = .int .i64 (k : Nat) ∧ k ≤ es.length ∧ Ext w wr ∧ Blk wr G 25 (stcells s A c) ∧ OwnLs wr w.heap.size A s.lines c ∧ VOk s
set_option maxRecDepth 100000 in
set_option maxHeartbeats 4000000 in
theorem orderStays_walk (s : St) (A : Option Addr) (c : Nat) (B : Option Addr) (cb : Nat) (es : List Ev) (w : World) (hr : LsRd w A s.lines) (hs : StWf s) (hre : EsRd w B es) (hel : es.length * 96 ≤ 140737488351232) (hes : ∀ e ∈ es, EvWf e) :
    Calls Try.prog 8 #[.agg (stcells s A c), .slice B es.length cb] w fun e w' => e = .returned (.bool true) ∧ Ext w w' := by
  have hlen := hs.2.2.2.1
  have hwho := hs.2.2.1
  have K0 := Lib.hid head_any
  have K1 := Lib.hid fun W => empty_any 1 W
  have K2 : Hid (∀ W, Calls Try.prog 22 #[.agg (stcells (noSt 1) none 0)] W fun e w' => e = .returned (.bool true) ∧ Ext W w') := Lib.hid fun W => by
    have := valid_any (noSt 1) none 0 W (RdN.nil_ _ _ _) (by decide) (by decide)
    rwa [empty_valid] at this
  have K3 := Lib.hid fun W (h : LsRd W A s.lines) => scopy_any s A c W h (by omega)
  have K4 := Lib.hid fun A' c' W (h : LsRd W A' s.lines) => valid_any s A' c' W h (by omega) (by omega)
  have Hes := Lib.hid hes
  obtain ⟨n, hnn⟩ : ∃ n, n = es.length := ⟨_, rfl⟩
  rw [← hnn] at hel ⊢
  have Hn := Lib.hid hnn
  clear hnn hes hs hlen hwho
  unfold CopPost at K3
  generalize hB0 : validB s = V at *
  cases V with
  | false =>
    go_enter Try.func8, Try.ntmps8
    go_wp2_with (first
      | (go_at_call 20; (with_reducible refine (K0.out _).mono ?_); rintro e w1 ⟨rfl, hx1⟩; have b1 : Blk w1 w.heap.size 25 (stcells s A c) := BlkE (BlkN rfl) hx1)
      | (go_at_call 14; (with_reducible refine (K1.out _).mono ?_); rintro e w2 ⟨rfl, hx2⟩; have b2 := BlkE b1 hx2)
      | (go_at_call 22; (with_reducible refine (K2.out _).mono ?_); rintro e w3 ⟨rfl, hx3⟩; have b3 := BlkE b2 hx3)
      | (with_reducible refine wpL_load_row rfl 25 (.tmp 2) rfl _ 25 _ 12 rfl b3 st_wide (stc_size _ _ _) ?_)
      | (go_at_call 15; (with_reducible refine (K3.out _ (hr.ext exA)).mono ?_); rintro e w4 ⟨A4, c4, rfl, hx4, ho4⟩; have hG : w.heap.size ≤ w4.heap.size := Nat.le_of_lt (Blk.lt (BlkE b3 hx4)))
      | (with_reducible refine wpL_store_row rfl 25 (.tmp 5) (.tmp 16) rfl _ 25 _ _ rfl rfl (BlkN rfl) ((stc_size _ _ _).trans (st_size' _ _ _ _ _ _ _ _ _ _ _ _ _ _).symm) (stc_one _ _ _) 12 st_wide (stc_size _ _ _) ?_)
      | (with_reducible refine wpL_load_row rfl 25 (.tmp 5) rfl _ 25 _ 12 rfl (Blk.setRow_ (BlkN rfl)) st_wide (stc_size _ _ _) ?_)
      | (go_at_call 22; (with_reducible refine (K4.out _ _ _ (ho4.rd.ext exA)).mono ?_); rintro e w5 ⟨rfl, hx5⟩; have b5 := BlkE (Blk.setRow_ (ds := stcells s A4 c4) (BlkN (w := w4) (cs := #[.int .i64 0, .int .i64 0, .int .i64 0, .int .i64 0, .int .i64 0, .slice none 0 0, .int .i64 0, .int .i64 0, .int .i64 0, .int .i64 0, .int .i64 0, .string ⟨#[]⟩]) (t := 25) rfl)) hx5; have o5 := (OwnRw (ds := stcells s A4 c4) (own_apart (OwnA (o := .cells #[.int .i64 0, .int .i64 0, .int .i64 0, .int .i64 0, .int .i64 0, .slice none 0 0, .int .i64 0, .int .i64 0, .int .i64 0, .int .i64 0, .int .i64 0, .string ⟨#[]⟩] 25) ho4) (BlkN rfl)) (OwnA (o := .cells #[.int .i64 0, .int .i64 0, .int .i64 0, .int .i64 0, .int .i64 0, .slice none 0 0, .int .i64 0, .int .i64 0, .int .i64 0, .int .i64 0, .int .i64 0, .string ⟨#[]⟩] 25) ho4)).mono hx5))
    go_ret
    exact ⟨rfl, exA⟩
  | true =>
    go_enter Try.func8, Try.ntmps8
    go_wp2_with (first
      | (go_at_call 20; (with_reducible refine (K0.out _).mono ?_); rintro e w1 ⟨rfl, hx1⟩; have b1 : Blk w1 w.heap.size 25 (stcells s A c) := BlkE (BlkN rfl) hx1)
      | (go_at_call 14; (with_reducible refine (K1.out _).mono ?_); rintro e w2 ⟨rfl, hx2⟩; have b2 := BlkE b1 hx2)
      | (go_at_call 22; (with_reducible refine (K2.out _).mono ?_); rintro e w3 ⟨rfl, hx3⟩; have b3 := BlkE b2 hx3)
      | (with_reducible refine wpL_load_row rfl 25 (.tmp 2) rfl _ 25 _ 12 rfl b3 st_wide (stc_size _ _ _) ?_)
      | (go_at_call 15; (with_reducible refine (K3.out _ (hr.ext exA)).mono ?_); rintro e w4 ⟨A4, c4, rfl, hx4, ho4⟩; have hG : w.heap.size ≤ w4.heap.size := Nat.le_of_lt (Blk.lt (BlkE b3 hx4)))
      | (with_reducible refine wpL_store_row rfl 25 (.tmp 5) (.tmp 16) rfl _ 25 _ _ rfl rfl (BlkN rfl) ((stc_size _ _ _).trans (st_size' _ _ _ _ _ _ _ _ _ _ _ _ _ _).symm) (stc_one _ _ _) 12 st_wide (stc_size _ _ _) ?_)
      | (with_reducible refine wpL_load_row rfl 25 (.tmp 5) rfl _ 25 _ 12 rfl (Blk.setRow_ (BlkN rfl)) st_wide (stc_size _ _ _) ?_)
      | (go_at_call 22; (with_reducible refine (K4.out _ _ _ (ho4.rd.ext exA)).mono ?_); rintro e w5 ⟨rfl, hx5⟩; have b5 := BlkE (Blk.setRow_ (ds := stcells s A4 c4) (BlkN (w := w4) (cs := #[.int .i64 0, .int .i64 0, .int .i64 0, .int .i64 0, .int .i64 0, .slice none 0 0, .int .i64 0, .int .i64 0, .int .i64 0, .int .i64 0, .int .i64 0, .string ⟨#[]⟩]) (t := 25) rfl)) hx5; have o5 := (OwnRw (ds := stcells s A4 c4) (own_apart (OwnA (o := .cells #[.int .i64 0, .int .i64 0, .int .i64 0, .int .i64 0, .int .i64 0, .slice none 0 0, .int .i64 0, .int .i64 0, .int .i64 0, .int .i64 0, .int .i64 0, .string ⟨#[]⟩] 25) ho4) (BlkN rfl)) (OwnA (o := .cells #[.int .i64 0, .int .i64 0, .int .i64 0, .int .i64 0, .int .i64 0, .slice none 0 0, .int .i64 0, .int .i64 0, .int .i64 0, .int .i64 0, .int .i64 0, .string ⟨#[]⟩] 25) ho4)).mono hx5))
    have o5' := own_less (b2 := w.heap.size) o5 (Nat.le_of_lt b3.lt)
    have hX5 : Ext w w5 := exA
    generalize w4.heap.size = G at *
    go_loopw [22] (fun c22 wr => StyR w G es c22 wr) (fun c22 _ => n - (intOf c22).toNat)
    case atStart => exact ⟨0, s, A4, c4, rfl, by omega, hX5, b5, o5', valid_iff.1 hB0⟩
    case round =>
      obtain ⟨k, sk, A2, c2, rfl, hk, hx, hb, ho, hv⟩ := hrel
      rw [← Hn.out] at hk
      clear hx1 hx2 hx3 hx4 hx5 b1 b2 b3 b5 o5 o5' ho4 hX5
      by_cases hlt : k < n
      · obtain ⟨b, o, rfl, hc⟩ := es_at hre (show k < es.length by rw [← Hn.out]; exact hlt)
        have Hc := Lib.hid (range_ext hc hx)
        have hse := ev_sm (Hes.out _ (List.getElem_mem (show k < es.length by rw [← Hn.out]; exact hlt)))
        have hss := sm_of_valid hv
        clear hc
        generalize es[k]'(by rw [← Hn.out]; exact hlt) = e at *
        have hv2 := valid_apply (e := e) hv
        have hss2 := sm_of_valid hv2
        have KA := Lib.hid fun W (h : LsRd W A2 sk.lines) => apply_any sk e A2 c2 W h hss.1 hss.2 hse.1 hse.2
        have KV : Hid (∀ A' c' W, LsRd W A' (apply sk e).1.lines → Calls Try.prog 22 #[.agg (stcells (apply sk e).1 A' c')] W fun e w' => e = .returned (.bool true) ∧ Ext W w') := Lib.hid fun A' c' W h => by
          have := valid_any (apply sk e).1 A' c' W h (by have := hss2.1; omega) (by have := hss2.2; omega)
          rwa [valid_iff.2 hv2] at this
        generalize (apply sk e).1 = s3 at *
        generalize (apply sk e).2 = why at *
        clear hss hse hss2
        have Ho := Lib.hid ho
        have hap := own_apart ho hb
        have hal := alloc_ev
        have hN : G < wr.heap.size := hb.lt
        have hB : ∀ ob, Blk (wr.alloc ob) G 25 (stcells sk A2 c2) := fun ob => BlkA hb
        obtain ⟨ek, eo, ei, eq, ep, ec, et, ew, em, en⟩ := e
        unfold evcells at Hc KA
        unfold ApPost at KA
        dsimp only at Hc KA
        have e0 : wr.cell? ⟨b, o + k * 10, none⟩ = some (.int .i64 ek) := Hc.out 0 _ rfl
        have e1 : wr.cell? ⟨b, o + k * 10 + 1, none⟩ = some (.int .i64 eo) := Hc.out 1 _ rfl
        have e2 : wr.cell? ⟨b, o + k * 10 + 2, none⟩ = some (.int .i64 ei) := Hc.out 2 _ rfl
        have e3 : wr.cell? ⟨b, o + k * 10 + 3, none⟩ = some (.int .i64 eq) := Hc.out 3 _ rfl
        have e4 : wr.cell? ⟨b, o + k * 10 + 4, none⟩ = some (.int .i64 ep) := Hc.out 4 _ rfl
        have e5 : wr.cell? ⟨b, o + k * 10 + 5, none⟩ = some (.int .i64 ec) := Hc.out 5 _ rfl
        have e6 : wr.cell? ⟨b, o + k * 10 + 6, none⟩ = some (.int .i64 et) := Hc.out 6 _ rfl
        have e7 : wr.cell? ⟨b, o + k * 10 + 7, none⟩ = some (.string ew) := Hc.out 7 _ rfl
        have e8 : wr.cell? ⟨b, o + k * 10 + 8, none⟩ = some (.int .i64 em) := Hc.out 8 _ rfl
        have e9 : wr.cell? ⟨b, o + k * 10 + 9, none⟩ = some (.string en) := Hc.out 9 _ rfl
        go_wp2_with (first
          | (with_reducible refine wpL_load_row rfl 25 (.tmp 5) rfl _ 25 _ 12 rfl (hB _) st_wide (stc_size _ _ _) ?_)
          | (go_at_call 27; (with_reducible refine (KA.out _ (Ho.out.rd.ext exA)).mono ?_); rintro e2 w2 ⟨A3, c3, rfl, hx2, ho2⟩; have q1 := BlkE (hB _) hx2)
          | (with_reducible refine wpL_store_row rfl 25 (.tmp 5) (.tmp 30) rfl _ 25 _ _ rfl rfl q1 ((stc_size _ _ _).trans (stc_size _ _ _).symm) (stc_one _ _ _) 12 st_wide (stc_size _ _ _) ?_)
          | (with_reducible refine wpL_load_row rfl 25 (.tmp 5) rfl _ 25 _ 12 rfl (Blk.setRow_ q1) st_wide (stc_size _ _ _) ?_)
          | (go_at_call 22; (with_reducible refine (KV.out _ _ _ (OwnRw (own_apart ho2 q1) ho2).rd).mono ?_); rintro e w5 ⟨rfl, hx5⟩; have q5 := BlkE (Blk.setRow_ (ds := stcells s3 A3 c3) q1) hx5; have o5 := (OwnRw (ds := stcells s3 A3 c3) (own_apart ho2 q1) ho2).mono hx5))
        refine And.intro ?_ ?_
        · exact ⟨k + 1, s3, A3, c3, by go_num, by have := Hn.out; omega, exA, q5, own_less o5 (by (first | omega | (dsimp only; omega) | (simp; done) | (simp; omega))), hv2⟩
        · simp [intOf]; omega
      · obtain rfl : k = n := by omega
        go_wp2_with fail
        go_ret
        exact ⟨rfl, exA⟩
end Go.Proofs.Ytlpjhnecihhkfaa
