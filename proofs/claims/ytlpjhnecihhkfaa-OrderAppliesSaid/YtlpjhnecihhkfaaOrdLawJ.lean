/-
  The walk of OrderApplies.
-/
import Derived.Test.YtlpjhnecihhkfaaOrdRs
import Derived.Test.YtlpjhnecihhkfaaOrdAe
import Derived.Test.YtlpjhnecihhkfaaOrdLawA
namespace Go.Proofs.Ytlpjhnecihhkfaa
open Go.RowKit
set_option linter.unusedVariables false
set_option linter.unusedSimpArgs false
theorem evc_size (e : Ev) : (evcells e).size = 10 := rfl
def ApR (w : World) (g5 g6 g8 b : Nat) (s s2 : St) (A5 : Option Addr) (c5 : Nat) (A6 : Option Addr) (c6 : Nat) (A8 : Option Addr) (c8 : Nat) (c46 : Value) (wr : World) : Prop :=
  ∃ (k : Nat) (ls : List Ln), c46 = .int .i64 (k : Nat) ∧ k ≤ s.lines.length ∧ ls.length = s.lines.length ∧ Ext w wr ∧ Blk wr g5 25 (stcells s A5 c5) ∧ Blk wr g6 25 (stcells s2 A6 c6) ∧ Blk wr g8 25 (stcells s2 A8 c8) ∧
    OwnLs wr w.heap.size A5 ls c5 ∧ OwnLs wr b A6 s2.lines c6 ∧ OwnLs wr b A8 s2.lines c8
def ApQ (w : World) (g5 g6 g8 b : Nat) (s s2 : St) (A6 : Option Addr) (c6 : Nat) (A8 : Option Addr) (c8 : Nat) (c11 : Value) (wr : World) : Prop :=
  ∃ (j : Nat) (A5 : Option Addr) (c5 : Nat) (ls : List Ln), c11 = .int .i64 (j : Nat) ∧ j ≤ 4 ∧ ls.length = s.lines.length + j ∧ Ext w wr ∧ Blk wr g5 25 (stcells { s with lines := ls } A5 c5) ∧ Blk wr g6 25 (stcells s2 A6 c6) ∧ Blk wr g8 25 (stcells s2 A8 c8) ∧
    OwnLs wr w.heap.size A5 ls c5 ∧ OwnLs wr b A6 s2.lines c6 ∧ OwnLs wr b A8 s2.lines c8 ∧ ∀ r, (Value.slice A5 ls.length c5).ownBlock = some r → NotOwn A6 r ∧ NotOwn A8 r
set_option maxRecDepth 100000 in
set_option maxHeartbeats 8000000 in
theorem orderApplies_walk (s : St) (A : Option Addr) (c : Nat) (e : Ev) (w : World) (hr : LsRd w A s.lines) (hs : StWf s) (he : EvWf e) :
    Calls Try.prog 6 #[.agg (stcells s A c), .agg (evcells e)] w fun e w' => e = .returned (.bool true) ∧ Ext w w' := by
  have hlen := hs.2.2.2.1
  have hwho := hs.2.2.1
  have hse := ev_sm he
  have hss : StSm s := ⟨hlen, by omega⟩
  have K0 := Lib.hid head_any
  have K3 := Lib.hid fun W (h : LsRd W A s.lines) => scopy_any s A c W h (by omega)
  have KR := Lib.hid fun W (h : LsRd W A s.lines) => rapply_any s e A c W h hlen (by omega) hse.1 hse.2
  have KA := Lib.hid fun A' c' W (h : LsRd W A' s.lines) => apply_any s e A' c' W h hlen (by omega) hse.1 hse.2
  have KS := Lib.hid fun A1 c1 A2 c2 W (h : LsRd W A1 (apply s e).1.lines) (h2 : LsRd W A2 (apply s e).1.lines) => same_any (apply s e).1 A1 A2 c1 c2 W h h2 (by have := (sm_apply e hss).1; omega)
  have KM := Lib.hid fun A1 c1 W (h : LsRd W A1 s.lines) (h2 : LsRd W A s.lines) => same_any s A1 A c1 c W h h2 (by omega)
  unfold CopPost at K3
  unfold ApPost at KR KA
  generalize (apply s e).1 = s2 at *
  generalize (apply s e).2 = why at *
  clear hs he hse hss hwho
  go_enter Try.func6, Try.ntmps6
  go_upto_region 4 with (first
    | (go_at_call 20; (with_reducible refine (K0.out _).mono ?_); rintro e w1 ⟨rfl, hx1⟩; have b1 : Blk w1 w.heap.size 25 (stcells s A c) := BlkE (BlkA (BlkN rfl)) hx1; have d1 : Blk w1 (w.heap.size + 1) 28 (evcells e) := BlkE (BlkN (by simp)) hx1)
    | (with_reducible refine wpL_load_row rfl 25 (.tmp 2) rfl _ 25 _ 12 rfl b1 st_wide (stc_size _ _ _) ?_)
    | (go_at_call 15; (with_reducible refine (K3.out _ (hr.ext exA)).mono ?_); rintro e w4 ⟨A4, c4, rfl, hx4, ho4⟩)
    | (with_reducible refine wpL_store_row rfl 25 (.tmp 5) (.tmp 15) rfl _ 25 _ _ rfl rfl (BlkN rfl) ((stc_size _ _ _).trans (st_size' _ _ _ _ _ _ _ _ _ _ _ _ _ _).symm) (stc_one _ _ _) 12 st_wide (stc_size _ _ _) ?_))
  have hW5 : w4.heap.size < ((w4.alloc (.cells #[.int .i64 0, .int .i64 0, .int .i64 0, .int .i64 0, .int .i64 0, .slice none 0 0, .int .i64 0, .int .i64 0, .int .i64 0, .int .i64 0, .int .i64 0, .string ⟨#[]⟩] 25)).setRow w4.heap.size (stcells s A4 c4)).heap.size := (Blk.setRow_ (ds := stcells s A4 c4) (BlkN (w := w4) (cs := #[.int .i64 0, .int .i64 0, .int .i64 0, .int .i64 0, .int .i64 0, .slice none 0 0, .int .i64 0, .int .i64 0, .int .i64 0, .int .i64 0, .int .i64 0, .string ⟨#[]⟩]) (t := 25) rfl)).lt
  have b5 := Blk.setRow_ (ds := stcells s A4 c4) (BlkN (w := w4) (cs := #[.int .i64 0, .int .i64 0, .int .i64 0, .int .i64 0, .int .i64 0, .slice none 0 0, .int .i64 0, .int .i64 0, .int .i64 0, .int .i64 0, .int .i64 0, .string ⟨#[]⟩]) (t := 25) rfl)
  have h1z : w.heap.size + 1 + 1 ≤ w1.heap.size := by have := hx1.size; simpa using this
  have h4z : w1.heap.size ≤ w4.heap.size := hx4.size
  have hwz : w.heap.size ≤ w4.heap.size := by omega
  have hX5 : Ext w ((w4.alloc (.cells #[.int .i64 0, .int .i64 0, .int .i64 0, .int .i64 0, .int .i64 0, .slice none 0 0, .int .i64 0, .int .i64 0, .int .i64 0, .int .i64 0, .int .i64 0, .string ⟨#[]⟩] 25)).setRow w4.heap.size (stcells s A4 c4)) := exA
  have b2 : Blk ((w4.alloc (.cells #[.int .i64 0, .int .i64 0, .int .i64 0, .int .i64 0, .int .i64 0, .slice none 0 0, .int .i64 0, .int .i64 0, .int .i64 0, .int .i64 0, .int .i64 0, .string ⟨#[]⟩] 25)).setRow w4.heap.size (stcells s A4 c4)) w.heap.size 25 (stcells s A c) := BlkR (by omega) (BlkA (BlkE b1 hx4))
  have d2 : Blk ((w4.alloc (.cells #[.int .i64 0, .int .i64 0, .int .i64 0, .int .i64 0, .int .i64 0, .slice none 0 0, .int .i64 0, .int .i64 0, .int .i64 0, .int .i64 0, .int .i64 0, .string ⟨#[]⟩] 25)).setRow w4.heap.size (stcells s A4 c4)) (w.heap.size + 1) 28 (evcells e) := BlkR (by omega) (BlkA (BlkE d1 hx4))
  have o5 : OwnLs ((w4.alloc (.cells #[.int .i64 0, .int .i64 0, .int .i64 0, .int .i64 0, .int .i64 0, .slice none 0 0, .int .i64 0, .int .i64 0, .int .i64 0, .int .i64 0, .int .i64 0, .string ⟨#[]⟩] 25)).setRow w4.heap.size (stcells s A4 c4)) w.heap.size A4 s.lines c4 := own_less (OwnRw (ds := stcells s A4 c4) (own_apart (OwnA (o := (.cells #[.int .i64 0, .int .i64 0, .int .i64 0, .int .i64 0, .int .i64 0, .slice none 0 0, .int .i64 0, .int .i64 0, .int .i64 0, .int .i64 0, .int .i64 0, .string ⟨#[]⟩] 25)) ho4) (BlkN rfl)) (OwnA (o := (.cells #[.int .i64 0, .int .i64 0, .int .i64 0, .int .i64 0, .int .i64 0, .slice none 0 0, .int .i64 0, .int .i64 0, .int .i64 0, .int .i64 0, .int .i64 0, .string ⟨#[]⟩] 25)) ho4)) (by omega)
  have hA4 : ∀ r, (Value.slice A4 s.lines.length c4).ownBlock = some r → r < w4.heap.size := fun r hr => (World.ownsRow.lt ho4 r hr).2
  have hwg : w.heap.size + 1 < w4.heap.size := by omega
  clear b1 d1 hx1 hx4 ho4 h1z h4z hwz
  generalize (w4.alloc (.cells #[.int .i64 0, .int .i64 0, .int .i64 0, .int .i64 0, .int .i64 0, .slice none 0 0, .int .i64 0, .int .i64 0, .int .i64 0, .int .i64 0, .int .i64 0, .string ⟨#[]⟩] 25)).setRow w4.heap.size (stcells s A4 c4) = W5 at *
  generalize w4.heap.size = g5 at *
  go_upto_region 5 with (first
    | (with_reducible refine wpL_load_row rfl 25 (.tmp 2) rfl _ 25 _ 12 rfl b2 st_wide (stc_size _ _ _) ?_)
    | (with_reducible refine wpL_load_row rfl 28 (.tmp 3) rfl _ 28 _ 10 rfl d2 ev_wide (evc_size _) ?_)
    | (go_at_call 26; (with_reducible refine (KR.out _ (hr.ext exA)).mono ?_); rintro e6 w6 ⟨A6, c6, rfl, hx6, ho6⟩)
    | (with_reducible refine wpL_store_row rfl 25 (.tmp 6) (.tmp 20) rfl _ 25 _ _ rfl rfl (BlkN rfl) ((stc_size _ _ _).trans (st_size' _ _ _ _ _ _ _ _ _ _ _ _ _ _).symm) (stc_one _ _ _) 12 st_wide (stc_size _ _ _) ?_))
  have h56 : g5 < w6.heap.size := Nat.lt_of_lt_of_le hW5 hx6.size
  have b6 := Blk.setRow_ (ds := stcells s2 A6 c6) (BlkN (w := w6) (cs := #[.int .i64 0, .int .i64 0, .int .i64 0, .int .i64 0, .int .i64 0, .slice none 0 0, .int .i64 0, .int .i64 0, .int .i64 0, .int .i64 0, .int .i64 0, .string ⟨#[]⟩]) (t := 25) rfl)
  have hX6 : Ext w ((w6.alloc (.cells #[.int .i64 0, .int .i64 0, .int .i64 0, .int .i64 0, .int .i64 0, .slice none 0 0, .int .i64 0, .int .i64 0, .int .i64 0, .int .i64 0, .int .i64 0, .string ⟨#[]⟩] 25)).setRow w6.heap.size (stcells s2 A6 c6)) := exA
  have b2' : Blk ((w6.alloc (.cells #[.int .i64 0, .int .i64 0, .int .i64 0, .int .i64 0, .int .i64 0, .slice none 0 0, .int .i64 0, .int .i64 0, .int .i64 0, .int .i64 0, .int .i64 0, .string ⟨#[]⟩] 25)).setRow w6.heap.size (stcells s2 A6 c6)) w.heap.size 25 (stcells s A c) := BlkR (by omega) (BlkA (BlkE b2 hx6))
  have d2' : Blk ((w6.alloc (.cells #[.int .i64 0, .int .i64 0, .int .i64 0, .int .i64 0, .int .i64 0, .slice none 0 0, .int .i64 0, .int .i64 0, .int .i64 0, .int .i64 0, .int .i64 0, .string ⟨#[]⟩] 25)).setRow w6.heap.size (stcells s2 A6 c6)) (w.heap.size + 1) 28 (evcells e) := BlkR (by omega) (BlkA (BlkE d2 hx6))
  have b5' : Blk ((w6.alloc (.cells #[.int .i64 0, .int .i64 0, .int .i64 0, .int .i64 0, .int .i64 0, .slice none 0 0, .int .i64 0, .int .i64 0, .int .i64 0, .int .i64 0, .int .i64 0, .string ⟨#[]⟩] 25)).setRow w6.heap.size (stcells s2 A6 c6)) g5 25 (stcells s A4 c4) := BlkR (by omega) (BlkA (BlkE b5 hx6))
  have o5' : OwnLs ((w6.alloc (.cells #[.int .i64 0, .int .i64 0, .int .i64 0, .int .i64 0, .int .i64 0, .slice none 0 0, .int .i64 0, .int .i64 0, .int .i64 0, .int .i64 0, .int .i64 0, .string ⟨#[]⟩] 25)).setRow w6.heap.size (stcells s2 A6 c6)) w.heap.size A4 s.lines c4 := OwnRw (ds := stcells s2 A6 c6) (own_apart (OwnA (o := (.cells #[.int .i64 0, .int .i64 0, .int .i64 0, .int .i64 0, .int .i64 0, .slice none 0 0, .int .i64 0, .int .i64 0, .int .i64 0, .int .i64 0, .int .i64 0, .string ⟨#[]⟩] 25)) (OwnLs.mono o5 hx6)) (BlkN rfl)) (OwnA (o := (.cells #[.int .i64 0, .int .i64 0, .int .i64 0, .int .i64 0, .int .i64 0, .slice none 0 0, .int .i64 0, .int .i64 0, .int .i64 0, .int .i64 0, .int .i64 0, .string ⟨#[]⟩] 25)) (OwnLs.mono o5 hx6))
  have o6 : OwnLs ((w6.alloc (.cells #[.int .i64 0, .int .i64 0, .int .i64 0, .int .i64 0, .int .i64 0, .slice none 0 0, .int .i64 0, .int .i64 0, .int .i64 0, .int .i64 0, .int .i64 0, .string ⟨#[]⟩] 25)).setRow w6.heap.size (stcells s2 A6 c6)) W5.heap.size A6 s2.lines c6 := OwnRw (ds := stcells s2 A6 c6) (own_apart (OwnA (o := (.cells #[.int .i64 0, .int .i64 0, .int .i64 0, .int .i64 0, .int .i64 0, .slice none 0 0, .int .i64 0, .int .i64 0, .int .i64 0, .int .i64 0, .int .i64 0, .string ⟨#[]⟩] 25)) ho6) (BlkN rfl)) (OwnA (o := (.cells #[.int .i64 0, .int .i64 0, .int .i64 0, .int .i64 0, .int .i64 0, .slice none 0 0, .int .i64 0, .int .i64 0, .int .i64 0, .int .i64 0, .int .i64 0, .string ⟨#[]⟩] 25)) ho6)
  have hg65 : W5.heap.size ≤ w6.heap.size := hx6.size
  have h65 : W5.heap.size ≤ ((w6.alloc (.cells #[.int .i64 0, .int .i64 0, .int .i64 0, .int .i64 0, .int .i64 0, .slice none 0 0, .int .i64 0, .int .i64 0, .int .i64 0, .int .i64 0, .int .i64 0, .string ⟨#[]⟩] 25)).setRow w6.heap.size (stcells s2 A6 c6)).heap.size := by have h1 : W5.heap.size ≤ w6.heap.size := hx6.size; have h2 := b6.lt; omega
  have hW6 : w6.heap.size < ((w6.alloc (.cells #[.int .i64 0, .int .i64 0, .int .i64 0, .int .i64 0, .int .i64 0, .slice none 0 0, .int .i64 0, .int .i64 0, .int .i64 0, .int .i64 0, .int .i64 0, .string ⟨#[]⟩] 25)).setRow w6.heap.size (stcells s2 A6 c6)).heap.size := b6.lt
  clear b2 d2 b5 o5 hx6 ho6 hX5
  generalize (w6.alloc (.cells #[.int .i64 0, .int .i64 0, .int .i64 0, .int .i64 0, .int .i64 0, .slice none 0 0, .int .i64 0, .int .i64 0, .int .i64 0, .int .i64 0, .int .i64 0, .string ⟨#[]⟩] 25)).setRow w6.heap.size (stcells s2 A6 c6) = W6 at *
  generalize w6.heap.size = g6 at *
  go_upto_region 6 with (first
    | (with_reducible refine wpL_load_row rfl 25 (.tmp 5) rfl _ 25 _ 12 rfl b5' st_wide (stc_size _ _ _) ?_)
    | (with_reducible refine wpL_load_row rfl 28 (.tmp 3) rfl _ 28 _ 10 rfl d2' ev_wide (evc_size _) ?_)
    | (go_at_call 27; (with_reducible refine (KA.out _ _ _ (o5'.rd.ext exA)).mono ?_); rintro e8 w8 ⟨A8, c8, rfl, hx8, ho8⟩)
    | (with_reducible refine wpL_store_row rfl 25 (.tmp 8) (.tmp 26) rfl _ 25 _ _ rfl rfl (BlkN rfl) ((stc_size _ _ _).trans (st_size' _ _ _ _ _ _ _ _ _ _ _ _ _ _).symm) (stc_one _ _ _) 12 st_wide (stc_size _ _ _) ?_))
  have h68 : g6 < w8.heap.size := Nat.lt_of_lt_of_le hW6 hx8.size
  have b8 := Blk.setRow_ (ds := stcells s2 A8 c8) (BlkN (w := w8) (cs := #[.int .i64 0, .int .i64 0, .int .i64 0, .int .i64 0, .int .i64 0, .slice none 0 0, .int .i64 0, .int .i64 0, .int .i64 0, .int .i64 0, .int .i64 0, .string ⟨#[]⟩]) (t := 25) rfl)
  have hX8 : Ext w ((w8.alloc (.cells #[.int .i64 0, .int .i64 0, .int .i64 0, .int .i64 0, .int .i64 0, .slice none 0 0, .int .i64 0, .int .i64 0, .int .i64 0, .int .i64 0, .int .i64 0, .string ⟨#[]⟩] 25)).setRow w8.heap.size (stcells s2 A8 c8)) := exA
  have b2 : Blk ((w8.alloc (.cells #[.int .i64 0, .int .i64 0, .int .i64 0, .int .i64 0, .int .i64 0, .slice none 0 0, .int .i64 0, .int .i64 0, .int .i64 0, .int .i64 0, .int .i64 0, .string ⟨#[]⟩] 25)).setRow w8.heap.size (stcells s2 A8 c8)) w.heap.size 25 (stcells s A c) := BlkR (by omega) (BlkA (BlkE b2' hx8))
  have b5 : Blk ((w8.alloc (.cells #[.int .i64 0, .int .i64 0, .int .i64 0, .int .i64 0, .int .i64 0, .slice none 0 0, .int .i64 0, .int .i64 0, .int .i64 0, .int .i64 0, .int .i64 0, .string ⟨#[]⟩] 25)).setRow w8.heap.size (stcells s2 A8 c8)) g5 25 (stcells s A4 c4) := BlkR (by omega) (BlkA (BlkE b5' hx8))
  have b6' : Blk ((w8.alloc (.cells #[.int .i64 0, .int .i64 0, .int .i64 0, .int .i64 0, .int .i64 0, .slice none 0 0, .int .i64 0, .int .i64 0, .int .i64 0, .int .i64 0, .int .i64 0, .string ⟨#[]⟩] 25)).setRow w8.heap.size (stcells s2 A8 c8)) g6 25 (stcells s2 A6 c6) := BlkR (by omega) (BlkA (BlkE b6 hx8))
  have o5 : OwnLs ((w8.alloc (.cells #[.int .i64 0, .int .i64 0, .int .i64 0, .int .i64 0, .int .i64 0, .slice none 0 0, .int .i64 0, .int .i64 0, .int .i64 0, .int .i64 0, .int .i64 0, .string ⟨#[]⟩] 25)).setRow w8.heap.size (stcells s2 A8 c8)) w.heap.size A4 s.lines c4 := OwnRw (ds := stcells s2 A8 c8) (own_apart (OwnA (o := (.cells #[.int .i64 0, .int .i64 0, .int .i64 0, .int .i64 0, .int .i64 0, .slice none 0 0, .int .i64 0, .int .i64 0, .int .i64 0, .int .i64 0, .int .i64 0, .string ⟨#[]⟩] 25)) (OwnLs.mono o5' hx8)) (BlkN rfl)) (OwnA (o := (.cells #[.int .i64 0, .int .i64 0, .int .i64 0, .int .i64 0, .int .i64 0, .slice none 0 0, .int .i64 0, .int .i64 0, .int .i64 0, .int .i64 0, .int .i64 0, .string ⟨#[]⟩] 25)) (OwnLs.mono o5' hx8))
  have o6' : OwnLs ((w8.alloc (.cells #[.int .i64 0, .int .i64 0, .int .i64 0, .int .i64 0, .int .i64 0, .slice none 0 0, .int .i64 0, .int .i64 0, .int .i64 0, .int .i64 0, .int .i64 0, .string ⟨#[]⟩] 25)).setRow w8.heap.size (stcells s2 A8 c8)) W5.heap.size A6 s2.lines c6 := OwnRw (ds := stcells s2 A8 c8) (own_apart (OwnA (o := (.cells #[.int .i64 0, .int .i64 0, .int .i64 0, .int .i64 0, .int .i64 0, .slice none 0 0, .int .i64 0, .int .i64 0, .int .i64 0, .int .i64 0, .int .i64 0, .string ⟨#[]⟩] 25)) (OwnLs.mono o6 hx8)) (BlkN rfl)) (OwnA (o := (.cells #[.int .i64 0, .int .i64 0, .int .i64 0, .int .i64 0, .int .i64 0, .slice none 0 0, .int .i64 0, .int .i64 0, .int .i64 0, .int .i64 0, .int .i64 0, .string ⟨#[]⟩] 25)) (OwnLs.mono o6 hx8))
  have o8 : OwnLs ((w8.alloc (.cells #[.int .i64 0, .int .i64 0, .int .i64 0, .int .i64 0, .int .i64 0, .slice none 0 0, .int .i64 0, .int .i64 0, .int .i64 0, .int .i64 0, .int .i64 0, .string ⟨#[]⟩] 25)).setRow w8.heap.size (stcells s2 A8 c8)) W5.heap.size A8 s2.lines c8 := own_less (OwnRw (ds := stcells s2 A8 c8) (own_apart (OwnA (o := (.cells #[.int .i64 0, .int .i64 0, .int .i64 0, .int .i64 0, .int .i64 0, .slice none 0 0, .int .i64 0, .int .i64 0, .int .i64 0, .int .i64 0, .int .i64 0, .string ⟨#[]⟩] 25)) ho8) (BlkN rfl)) (OwnA (o := (.cells #[.int .i64 0, .int .i64 0, .int .i64 0, .int .i64 0, .int .i64 0, .slice none 0 0, .int .i64 0, .int .i64 0, .int .i64 0, .int .i64 0, .int .i64 0, .string ⟨#[]⟩] 25)) ho8)) h65
  clear b2' d2' b5' b6 o5' o6 hx8 ho8 hX6
  generalize (w8.alloc (.cells #[.int .i64 0, .int .i64 0, .int .i64 0, .int .i64 0, .int .i64 0, .slice none 0 0, .int .i64 0, .int .i64 0, .int .i64 0, .int .i64 0, .int .i64 0, .string ⟨#[]⟩] 25)).setRow w8.heap.size (stcells s2 A8 c8) = W8 at *
  generalize w8.heap.size = g8 at *
  go_upto_region 8 with (first
    | (with_reducible refine wpL_load_row_w (by kernel_rfl) 25 (.tmp 8) rfl _ 25 _ 12 rfl b8 st_wide (stc_size _ _ _) ?_)
    | (with_reducible refine wpL_load_row_w (by kernel_rfl) 25 (.tmp 6) rfl _ 25 _ 12 rfl b6' st_wide (stc_size _ _ _) ?_)
    | (go_at_call 23; (with_reducible refine (KS.out _ _ _ _ _ (o8.rd.ext exA) (o6'.rd.ext exA)).mono ?_); rintro e9 w9 ⟨rfl, hx9⟩; have b5 := BlkE b5 hx9; have b2 := BlkE b2 hx9)
    | (with_reducible refine wpL_load_row_w (by kernel_rfl) 25 (.tmp 5) rfl _ 25 _ 12 rfl b5 st_wide (stc_size _ _ _) ?_)
    | (with_reducible refine wpL_load_row_w (by kernel_rfl) 25 (.tmp 2) rfl _ 25 _ 12 rfl b2 st_wide (stc_size _ _ _) ?_)
    | (go_at_call 23; (with_reducible refine (KM.out _ _ _ (o5.rd.ext exA) (hr.ext exA)).mono ?_); rintro e10 w10 ⟨rfl, hx10⟩))
  have hX10 : Ext w w10 := exA
  have v5 := BlkE b5 hx10
  have v6 : Blk w10 g6 25 (stcells s2 A6 c6) := BlkE b6' (Ext.tr hx9 hx10)
  have v8 : Blk w10 g8 25 (stcells s2 A8 c8) := BlkE b8 (Ext.tr hx9 hx10)
  have p5 := OwnLs.mono o5 (Ext.tr hx9 hx10)
  have p6 := OwnLs.mono o6' (Ext.tr hx9 hx10)
  have p8 := OwnLs.mono o8 (Ext.tr hx9 hx10)
  have n65 : g6 ≠ g5 := by omega
  have n85 : g8 ≠ g5 := by omega
  have hlb : ∀ r, (Value.slice A4 s.lines.length c4).ownBlock = some r → r < W5.heap.size := fun r hr => by have := hA4 r hr; omega
  clear b2 b5 b6' b8 o5 o6' o8 hx9 hx10 hX8 hA4 KM K3 KR KA hr
  generalize W5.heap.size = bz at *
  obtain ⟨n, hn⟩ : ∃ n, n = s.lines.length := ⟨_, rfl⟩
  have Hn := Lib.hid hn
  have z5 : World.cell? w10 ⟨g5, 5, none⟩ = some (.slice A4 n c4) := by rw [hn]; exact v5.cell 5
  clear hn
  go_wp2_with fail
  go_loopw [46] (fun c46 wr => ApR w g5 g6 g8 bz s s2 A4 c4 A6 c6 A8 c8 c46 wr) (fun c46 _ => n - (intOf c46).toNat)
  case atStart => exact ⟨0, s.lines, rfl, by omega, rfl, hX10, v5, v6, v8, p5, p6, p8⟩
  case round =>
    obtain ⟨k, ls, rfl, hk, hls, hx, q5, q6, q8, r5, r6, r8⟩ := hrel
    rw [← Hn.out] at hk
    by_cases hlt : k < n
    · have hkl : k < ls.length := by rw [hls, ← Hn.out]; exact hlt
      obtain ⟨lb, _, rfl, hlbw, _⟩ := own_blk r5 (by omega)
      have hlbz := hlb lb rfl
      have hLn := own_at r5 hkl
      have HSet := Lib.hid (own_set (f := 0) (v := .int .i64 (-5)) (l := ⟨-5, ls[k].price, ls[k].qty, ls[k].shipped⟩) r5 hkl (by omega) rfl)
      have e0 : World.cell? wr ⟨lb, k * 4, none⟩ = some (.int .i64 ls[k].item) := hLn 0 _ rfl
      have f0 := own_frozen_ r5 (k * 4)
      have m5 : g5 ≠ lb := fun h => own_apart r5 q5 0 0 (by rw [h]; rfl)
      have m6 : g6 ≠ lb := fun h => own_apart r5 q6 0 0 (by rw [h]; rfl)
      have m8 : g8 ≠ lb := fun h => own_apart r5 q8 0 0 (by rw [h]; rfl)
      have N6 := notown_lt r6 hlbz
      have N8 := notown_lt r8 hlbz
      have z5' : World.cell? wr ⟨g5, 5, none⟩ = some (.slice (some ⟨lb, 0, none⟩) n c4) := by rw [Hn.out]; exact q5.cell 5
      have hkn : (k : Int) < (n : Int) := by omega
      have hk0 : (0 : Int) ≤ (k : Int) := by omega
      clear hLn
      go_wp2_with fail
      refine And.intro ?_ ?_
      · exact ⟨k + 1, _, by go_num, by rw [← Hn.out]; omega, by rw [List.length_set]; exact hls, ExtS (by exact hlbw) hx, BlkF m5 q5, BlkF m6 q6, BlkF m8 q8, HSet.out, OwnSt N6 r6, OwnSt N8 r8⟩
      · simp [intOf]; omega
    · obtain rfl : k = n := by omega
      have hst0 : stcells s A4 c4 = stcells { s with lines := ls } A4 c4 := by simp only [stcells, hls]
      rw [hst0] at q5
      clear hst0 z5 v5 v6 v8 p5 p6 p8 hX10
      go_wp2_with fail
      go_loopw [11] (fun c11 wr2 => ApQ w g5 g6 g8 bz s s2 A6 c6 A8 c8 c11 wr2) (fun c11 _ => 4 - (intOf c11).toNat)
      case atStart => exact ⟨0, A4, c4, ls, rfl, by omega, by omega, hx, q5, q6, q8, r5, r6, r8, fun r hr => ⟨notown_lt r6 (hlb r (by rw [hls] at hr; exact hr)), notown_lt r8 (hlb r (by rw [hls] at hr; exact hr))⟩⟩
      case round =>
        clear q5 q6 q8 r5 r6 r8 hx
        obtain ⟨j, A5, c5, ls2, rfl, hj, hl2, hx, q5, q6, q8, r5, r6, r8, hsep⟩ := hrel
        by_cases hj4 : j < 4
        · have hjt : (j : Int) < 4 := by omega
          have z5 : World.cell? wr ⟨g5, 5, none⟩ = some (.slice A5 ls2.length c5) := q5.cell 5
          have hlm : ls2.length ≤ 4398046510980 := by omega
          have H1 := Lib.hid (ln_one ⟨-6, 0, 0, 0⟩)
          unfold lncells at H1
          dsimp only at H1
          obtain ⟨m, hm⟩ : ∃ m, m = ls2.length := ⟨_, rfl⟩
          have Hm := Lib.hid hm
          have hown : World.ownsRow wr w.heap.size 48 4 (.slice A5 m c5) m (lnCells ls2) := by rw [hm]; exact r5
          rw [← hm] at hsep z5 hlm
          have Hown := Lib.hid hown
          have hwr : w.heap.size ≤ wr.heap.size := hx.size
          have N5 := Lib.hid (own_apart r5 q5)
          have Hq5 := Lib.hid q5
          have hA1 : ∀ ob, Hid (World.ownsRow (wr.alloc ob) w.heap.size 48 4 (.slice A5 m c5) m (lnCells ls2)) := fun ob => Lib.hid (Hown.out.alloc _)
          have hA2 : Hid (RdN (wr.alloc (.cells #[.int .i64 (-6), .int .i64 0, .int .i64 0, .int .i64 0] 48)) 4 (some ⟨wr.heap.size, 0, none⟩) 1 #[.int .i64 (-6), .int .i64 0, .int .i64 0, .int .i64 0].toList) := Lib.hid (rd_one (l := ⟨-6, 0, 0, 0⟩) (BlkN rfl))
          clear hm hown r5
          go_wp2_with (at_builtin; go_must (refine wpL_append rfl (.tmp 60) (.tmp 62) 23 rfl w.heap.size 48 _ 4 32 Try.underlying23 el_ln (.slice A5 m c5) _ _ rfl (hA1 _).out _ _ _ _ rfl hA2.out H1.out _ _ rfl rfl (by simp only [maxLen]; omega) (by omega) (by simp; omega) ?_); intro v' w2 hown' hg' hb'; obtain ⟨A3, c3, rfl⟩ := own_slice hown'; have s5 := BlkG (BlkA Hq5.out) hg' (fun h => N5.out _ _ h.symm); have y5 := s5.cell 5; have y5f := s5.frozen 5)
          have hXa : Ext w w2 := Ext.grown (show Ext w (wr.alloc (.cells #[.int .i64 (-6), .int .i64 0, .int .i64 0, .int .i64 0] 48)) from exA) hg' (fun r hr => (World.ownsRow.lt Hown.out r hr).1)
          have t5 : OwnLs w2 w.heap.size A3 (ls2 ++ [⟨-6, 0, 0, 0⟩]) c3 := own_push hown' (by rw [Hm.out])
          have t6 : OwnLs w2 bz A6 s2.lines c6 := World.ownsRow.kept (World.ownsRow.alloc r6 _) hg' (sep_ne fun r hr => (hsep r hr).1)
          have t8 : OwnLs w2 bz A8 s2.lines c8 := World.ownsRow.kept (World.ownsRow.alloc r8 _) hg' (sep_ne fun r hr => (hsep r hr).2)
          have u6 : Blk w2 g6 25 (stcells s2 A6 c6) := BlkG (BlkA q6) hg' (fun h => by exact own_apart (show OwnLs wr w.heap.size A5 ls2 c5 by unfold OwnLs; rw [← Hm.out]; exact Hown.out) q6 _ _ h.symm)
          have u8 : Blk w2 g8 25 (stcells s2 A8 c8) := BlkG (BlkA q8) hg' (fun h => by exact own_apart (show OwnLs wr w.heap.size A5 ls2 c5 by unfold OwnLs; rw [← Hm.out]; exact Hown.out) q8 _ _ h.symm)
          refine And.intro ?_ ?_
          · refine ⟨j + 1, A3, c3, ls2 ++ [⟨-6, 0, 0, 0⟩], by go_num, by omega, by rw [List.length_append, hl2]; rfl, ExtS (show w.heap.size ≤ g5 by omega) hXa, ?_, BlkF n65 u6, BlkF n85 u8, OwnSt (own_apart t5 s5) t5, OwnSt (own_apart t6 s5) t6, OwnSt (own_apart t8 s5) t8, ?_⟩
            · exact Blk_eq (BlkS s5) (by simp only [stcells, List.length_append, ← Hm.out]; rfl)
            · intro r hr
              rcases hb' with hb' | hb'
              · exact hsep r (by rw [← hb']; cases A3 with | none => simp [Value.ownBlock] at hr | some a => exact hr)
              · have hr2 : r = wr.heap.size + 1 := by
                  have h7 : (Value.slice A3 (m + 1) c3).ownBlock = some r := by cases A3 with | none => simp [Value.ownBlock] at hr | some a => exact hr
                  rw [hb'] at h7
                  simp at h7
                  omega
                exact ⟨notown_ge r6 (by omega), notown_ge r8 (by omega)⟩
          · simp [intOf]; omega
        · obtain rfl : j = 4 := by omega
          go_wp2_with (first
            | (with_reducible refine wpL_load_row rfl 25 (.tmp 8) rfl _ 25 _ 12 rfl q8 st_wide (stc_size _ _ _) ?_)
            | (with_reducible refine wpL_load_row rfl 25 (.tmp 6) rfl _ 25 _ 12 rfl q6 st_wide (stc_size _ _ _) ?_)
            | (go_at_call 23; (with_reducible refine (KS.out _ _ _ _ _ r8.rd r6.rd).mono ?_); rintro e11 w11 ⟨rfl, hx11⟩))
          go_ret
          exact ⟨rfl, Ext.tr hx hx11⟩
end Go.Proofs.Ytlpjhnecihhkfaa
