/-
  The document's disk: Do, whole; what the getters tell (told).
-/
/-
  What the getters tell of a disk, held against the document's (told).
-/
import Derived.Test.YtdoaniimfhpjhaaRfJ
import Derived.Test.YtdoaniimfhpjhaaOpA
import Derived.Test.YtdoaniimfhpjhaaFsY
import Derived.Deep.QuietTactic
import Derived.BigQuiet
namespace Go.Proofs.Ytdoaniimfhpjhaa
open Go.RowKit
set_option linter.unusedVariables false
set_option linter.unusedSimpArgs false
theorem do_any {d : Dk} (hI : DkInv d) (o : HO) (A : Option Addr) (n c B0 : Nat) (hs0 : List HV) (hmap : hs0.map (·.1) = imgL d) (w : World) (hr : OwnFl w B0 A n c hs0) (hB : B0 ≤ w.heap.size) (hst : d.steps ≤ 4611686018427387904) (ho : OpOk w o) :
    Calls Try.prog 9 #[.agg #[.slice A n c, .int .i64 d.room, .int .i64 d.fuse, .bool d.down, .int .i64 d.steps, .int .i64 d.read], .agg (opcells o)] w (DoPost w B0 A hs0 (callD d o.1)) := by
  obtain ⟨⟨hb1, hb2⟩, ⟨hk1, hk2, hk3⟩, _, hn, hm⟩ := ho
  by_cases hk : 0 ≤ o.1.k ∧ o.1.k ≤ 7
  · exact do_mid hI o.1 hk A n c B0 hs0 hmap o.2.1.1 o.2.1.2 o.2.2.1 o.1.keep.length o.2.2.2 w hr hB hn hm hst hb1 (by omega)
  · exact do_low hI o.1 (by omega) A n c B0 hs0 hmap o.2.1.1 o.2.1.2 o.2.2.1 o.2.2.2 w hr hB hn hk1 hk2 hk3
end Go.Proofs.Ytdoaniimfhpjhaa

namespace Go.Proofs.Ytdoaniimfhpjhaa
open Go.RowKit
set_option linter.unusedVariables false
set_option linter.unusedSimpArgs false
def TldR (W : World) (n : Nat) (c59 : Value) (wr : World) : Prop := ∃ k : Nat, c59 = .int .i64 k ∧ k ≤ n ∧ Ext W wr
set_option maxRecDepth 100000 in
set_option maxHeartbeats 8000000 in
theorem told_any {W w : World} {g b : Nat} {d : Dk} {D : DataW Value} {hs : List HF} (h : FsX W w g d b D hs) (hI : DkInv d) (A : Option Addr) (n c : Nat) (hr : FlRd w A n (imgL d)) :
    Calls Try.prog 8 #[.pointer (some ⟨g, 0, none⟩), .agg #[.slice A n c, .int .i64 d.room, .int .i64 d.fuse, .bool d.down, .int .i64 d.steps, .int .i64 d.read]] w fun e w' => e = .returned (.bool true) ∧ Ext w w' := by
  have hnl := hr.len
  rw [imgL_len] at hnl
  have hnn : n ≤ 700 := by have := hI.cnt; omega
  have hus : d.used = (sumV (imgL d) : Nat) := by rw [sumV_img]; exact hI.ok.1
  have hsm := sum_small hI
  have hrm := hI.ok.2
  have hro := hI.room
  have KU := Lib.hid fun w1 (hx : Ext w w1) => rused_any A n c (imgL d) d.room d.fuse d.steps d.read d.down w1 (hr.ext hx) (by simp only [maxLen]; omega) (by omega)
  have K1 := Lib.hid fun w1 (hx : Ext w w1) => usedK (h.ext_ hx)
  have K2 := Lib.hid fun w1 (hx : Ext w w1) => freeK (h.ext_ hx) hI
  have K3 := Lib.hid fun w1 (hx : Ext w w1) => stepsK (h.ext_ hx)
  have K4 := Lib.hid fun w1 (hx : Ext w w1) => readsK (h.ext_ hx)
  have K5 := Lib.hid fun w1 (hx : Ext w w1) => downK (h.ext_ hx)
  have K6 := Lib.hid fun w1 (hx : Ext w w1) => listK (h.ext_ hx)
  rw [hus] at K1 K2
  obtain ⟨u, hu⟩ : ∃ u, u = sumV (imgL d) := ⟨_, rfl⟩
  rw [← hu] at K1 K2 KU hus hsm
  have HR := Lib.hid hr
  have Hnl := Lib.hid hnl
  have cw : IntKind.i64.wrap (d.room - (u : Int)) = d.room - (u : Int) := by rw [IntKind.wrap_i64]; omega
  have xx : ∀ x : Int, (x != x) = false := fun x => by simp
  have bb : ∀ x : Bool, (x != x) = false := fun x => by cases x <;> rfl
  have bd : (d.down != d.down) = false := bb _
  have x1 : ((u : Int) != (u : Int)) = false := xx _
  have x2 : (d.room - (u : Int) != d.room - (u : Int)) = false := xx _
  have x3 : (d.steps != d.steps) = false := xx _
  have x4 : (d.read != d.read) = false := xx _
  clear h hr hu hus hnl hsm xx bb
  go_enter Try.func8, Try.ntmps8
  go_upto_region 2 with (first
    | (with_reducible refine wpL_load_row rfl 28 (.tmp 3) rfl w.heap.size 28 _ 6 rfl (BlkN rfl) disk_wide (dk_size _ _ _ _ _ _ _ _) ?_)
    | (go_at_call 21; (with_reducible refine (KU.out _ (by repeat (first | with_reducible exact Below.refl _ _ | with_reducible assumption | with_reducible refine ExtD ?_ | with_reducible refine ExtDN ?_ | with_reducible refine ExtA ?_ | (with_reducible refine ExtR ?_ ?_; (first | omega | (dsimp only; omega) | (simp; done) | (simp; omega))) | (with_reducible refine ExtS ?_ ?_; (first | omega | (dsimp only; omega) | (simp; done) | (simp; omega))) | with_reducible refine Ext.tr ?_ (by with_reducible assumption)))).mono ?_); rintro e w1 ⟨rfl, hx1⟩))
  have b1 : Blk w1 w.heap.size 28 #[.slice A n c, .int .i64 d.room, .int .i64 d.fuse, .bool d.down, .int .i64 d.steps, .int .i64 d.read] := BlkE (BlkN rfl) hx1
  have hX1 : Ext w w1 := (ExtA (Ext.rfl' w)).tr hx1
  have HS := Lib.hid fun (w' : World) (h : Ext w1 w') => (show w'.cell? ⟨w.heap.size, 1, none⟩ = some (.int .i64 d.room) ∧ w'.cell? ⟨w.heap.size, 3, none⟩ = some (.bool d.down) ∧ w'.cell? ⟨w.heap.size, 4, none⟩ = some (.int .i64 d.steps) ∧ w'.cell? ⟨w.heap.size, 5, none⟩ = some (.int .i64 d.read) from ⟨(BlkE b1 h).cell 1, (BlkE b1 h).cell 3, (BlkE b1 h).cell 4, (BlkE b1 h).cell 5⟩)
  have HB := Lib.hid b1
  clear hx1 b1
  go_region_held3 (fun w' => w'.cell? ⟨w.heap.size, 1, none⟩ = some (.int .i64 d.room) ∧ w'.cell? ⟨w.heap.size, 3, none⟩ = some (.bool d.down) ∧ w'.cell? ⟨w.heap.size, 4, none⟩ = some (.int .i64 d.steps) ∧ w'.cell? ⟨w.heap.size, 5, none⟩ = some (.int .i64 d.read)) (exact HS.out _ (by repeat (first | with_reducible exact Below.refl _ _ | with_reducible assumption | with_reducible refine ExtD ?_ | with_reducible refine ExtDN ?_ | with_reducible refine ExtA ?_ | (with_reducible refine ExtR ?_ ?_; (first | omega | (dsimp only; omega) | (simp; done) | (simp; omega))) | (with_reducible refine ExtS ?_ ?_; (first | omega | (dsimp only; omega) | (simp; done) | (simp; omega))) | with_reducible refine Ext.tr ?_ (by with_reducible assumption))))
    (first
      | (go_at_call 19; go_loud ((with_reducible refine (K1.out _ (by repeat (first | with_reducible exact Below.refl _ _ | with_reducible assumption | with_reducible refine ExtD ?_ | with_reducible refine ExtDN ?_ | with_reducible refine ExtA ?_ | (with_reducible refine ExtR ?_ ?_; (first | omega | (dsimp only; omega) | (simp; done) | (simp; omega))) | (with_reducible refine ExtS ?_ ?_; (first | omega | (dsimp only; omega) | (simp; done) | (simp; omega))) | with_reducible refine Ext.tr ?_ (by with_reducible assumption)))).mono ?_); rintro e w2 ⟨rfl, hx2⟩))
      | (go_at_call 20; go_loud ((with_reducible refine (K2.out _ (by repeat (first | with_reducible exact Below.refl _ _ | with_reducible assumption | with_reducible refine ExtD ?_ | with_reducible refine ExtDN ?_ | with_reducible refine ExtA ?_ | (with_reducible refine ExtR ?_ ?_; (first | omega | (dsimp only; omega) | (simp; done) | (simp; omega))) | (with_reducible refine ExtS ?_ ?_; (first | omega | (dsimp only; omega) | (simp; done) | (simp; omega))) | with_reducible refine Ext.tr ?_ (by with_reducible assumption)))).mono ?_); rintro e w3 ⟨rfl, hx3⟩))
      | (go_at_call 22; go_loud ((with_reducible refine (K3.out _ (by repeat (first | with_reducible exact Below.refl _ _ | with_reducible assumption | with_reducible refine ExtD ?_ | with_reducible refine ExtDN ?_ | with_reducible refine ExtA ?_ | (with_reducible refine ExtR ?_ ?_; (first | omega | (dsimp only; omega) | (simp; done) | (simp; omega))) | (with_reducible refine ExtS ?_ ?_; (first | omega | (dsimp only; omega) | (simp; done) | (simp; omega))) | with_reducible refine Ext.tr ?_ (by with_reducible assumption)))).mono ?_); rintro e w4 ⟨rfl, hx4⟩))
      | (go_at_call 23; go_loud ((with_reducible refine (K4.out _ (by repeat (first | with_reducible exact Below.refl _ _ | with_reducible assumption | with_reducible refine ExtD ?_ | with_reducible refine ExtDN ?_ | with_reducible refine ExtA ?_ | (with_reducible refine ExtR ?_ ?_; (first | omega | (dsimp only; omega) | (simp; done) | (simp; omega))) | (with_reducible refine ExtS ?_ ?_; (first | omega | (dsimp only; omega) | (simp; done) | (simp; omega))) | with_reducible refine Ext.tr ?_ (by with_reducible assumption)))).mono ?_); rintro e w5 ⟨rfl, hx5⟩))
      | (go_at_call 24; go_loud ((with_reducible refine (K5.out _ (by repeat (first | with_reducible exact Below.refl _ _ | with_reducible assumption | with_reducible refine ExtD ?_ | with_reducible refine ExtDN ?_ | with_reducible refine ExtA ?_ | (with_reducible refine ExtR ?_ ?_; (first | omega | (dsimp only; omega) | (simp; done) | (simp; omega))) | (with_reducible refine ExtS ?_ ?_; (first | omega | (dsimp only; omega) | (simp; done) | (simp; omega))) | with_reducible refine Ext.tr ?_ (by with_reducible assumption)))).mono ?_); rintro e w6 ⟨rfl, hx6⟩)))
  have hX6 : Ext w1 w6 := (by repeat (first | with_reducible exact Below.refl _ _ | with_reducible assumption | with_reducible refine ExtD ?_ | with_reducible refine ExtDN ?_ | with_reducible refine ExtA ?_ | (with_reducible refine ExtR ?_ ?_; (first | omega | (dsimp only; omega) | (simp; done) | (simp; omega))) | (with_reducible refine ExtS ?_ ?_; (first | omega | (dsimp only; omega) | (simp; done) | (simp; omega))) | with_reducible refine Ext.tr ?_ (by with_reducible assumption)))
  have HB6 := Lib.hid (BlkE HB.out hX6)
  have hX := hX1.tr hX6
  have f3 := HB6.out.cell 3
  clear hx2 hx3 hx4 hx5 hx6 hX6 hX1 HS HB K1 K2 K3 K4 K5 KU x1 x2 x3 x4 bd cw
  cases hdn : d.down
  case true =>
    have K7 : Hid (∀ w1, Ext w w1 → Calls Try.prog 25 #[.pointer (some ⟨g, 0, none⟩)] w1 fun e w' => e = .returned (.slice none 0 0) ∧ Ext w1 w') := Lib.hid fun w1 hx => by
      have := K6.out w1 hx
      have e : GaveL w1 d = fun e w' => e = .returned (.slice none 0 0) ∧ Ext w1 w' := by funext e w'; unfold GaveL; rw [if_pos hdn]
      rwa [e] at this
    rw [hdn] at f3
    clear K6 hdn
    go_wp2_with (first | (go_at_call 25; (with_reducible refine (K7.out _ hX).mono ?_); rintro e w7 ⟨rfl, hx7⟩; have f3 := hx7.cell f3))
    go_ret
    exact ⟨rfl, hX.tr hx7⟩
  case false =>
    have K7 : Hid (∀ w1, Ext w w1 → Calls Try.prog 25 #[.pointer (some ⟨g, 0, none⟩)] w1 fun e w' => ∃ A2 c2, e = .returned (.slice A2 n c2) ∧ Ext w1 w' ∧ w'.ownsRow w1.heap.size 9 1 (.slice A2 n c2) n (nmV (sortF d.files))) := Lib.hid fun w1 hx => by
      have := K6.out w1 hx
      have e : GaveL w1 d = fun e w' => ∃ A2 c2, e = .returned (.slice A2 n c2) ∧ Ext w1 w' ∧ w'.ownsRow w1.heap.size 9 1 (.slice A2 n c2) n (nmV (sortF d.files)) := by
        funext e w'; unfold GaveL; rw [hdn, if_neg Bool.false_ne_true]; unfold GaveN; rw [Hnl.out]
      rwa [e] at this
    rw [hdn] at f3
    clear K6 hdn
    go_upto_region 9 with (first | (go_at_call 25; (with_reducible refine (K7.out _ hX).mono ?_); rintro e w7 ⟨A2, c2, rfl, hx7, ho7⟩; have f3 := hx7.cell f3; have f0 : w7.cell? ⟨w.heap.size, 0, none⟩ = some (.slice A n c) := (BlkE HB6.out hx7).cell 0))
    have HB7 := Lib.hid (BlkE HB6.out hx7)
    have hX7 := hX.tr hx7
    have HO := Lib.hid (Rd.of_own ho7)
    clear f3 f0 hx7 ho7 HB6 hX K7
    go_wp2_with fail
    go_loopw [59] (fun c59 wr => TldR w7 n c59 wr) (fun c59 _ => n - (intOf c59).toNat)
    case atStart => exact ⟨0, rfl, by omega, Ext.rfl' _⟩
    case round =>
      obtain ⟨k, rfl, hk, hx⟩ := hrel
      by_cases hlt : k < n
      · obtain ⟨fb, fo, f, Af, cf, hfk, rfl, hc, -⟩ := fl_at (HR.out.ext (hX7.tr hx)) hlt
        have e0 := hc 0 _ rfl
        simp only [Nat.add_zero] at e0
        obtain ⟨nb, no, rfl, hnc⟩ := (HO.out.ext hx).2 (by omega)
        have en : wr.cell? ⟨nb, no + k, none⟩ = some (.string f.name) := hnc k _ (by
          unfold imgL at hfk
          rw [List.getElem?_map] at hfk
          obtain ⟨f9, hf9, hf8⟩ := Option.map_eq_some_iff.1 hfk
          unfold nmV
          rw [List.getElem?_map, hf9, ← hf8]
          rfl)
        have f0 := (BlkE HB7.out hx).cell 0
        have d1 : (f.name.toList == f.name.toList) = true := by simp
        have d2 : (f.name.toList != f.name.toList) = false := by simp
        clear hfk hc hnc
        go_wp2_with fail
        go_quiet (fail)
        go_wp2_with fail
        go_roundw
        case rel => exact ⟨k + 1, by go_num, by omega, (by repeat (first | with_reducible exact Below.refl _ _ | with_reducible assumption | with_reducible refine ExtD ?_ | with_reducible refine ExtDN ?_ | with_reducible refine ExtA ?_ | (with_reducible refine ExtR ?_ ?_; (first | omega | (dsimp only; omega) | (simp; done) | (simp; omega))) | (with_reducible refine ExtS ?_ ?_; (first | omega | (dsimp only; omega) | (simp; done) | (simp; omega))) | with_reducible refine Ext.tr ?_ (by with_reducible assumption)))⟩
        case measure => simp [intOf]; omega
      · have hkn : k = n := by omega
        subst hkn
        go_wp2_with fail
        go_ret
        exact ⟨rfl, hX7.tr hx⟩
end Go.Proofs.Ytdoaniimfhpjhaa
