/-
  The walks of the law's head and of the laws TlvEncodes, TlvDecodes, TlvBack, TlvOneForm.
-/
import Derived.Test.YtcekdfhbbfednaaDecX
import Derived.Test.YtcekdfhbbfednaaRefD
import Derived.Test.YtcekdfhbbfednaaFsX
import Derived.Test.YtcekdfhbbfednaaTlvLawZ
import Derived.Lib.SlBytesConst
namespace Go.Proofs.Ytcekdfhbbfednaa
open Go.RowKit
set_option linter.unusedVariables false
set_option linter.unusedSimpArgs false
def lit2 : List Fld := [⟨1, false, 5, []⟩, ⟨3, true, 0, [97, 98]⟩]
theorem lit2_wf : FWf lit2 := by
  intro f hf
  simp only [lit2, List.mem_cons, List.not_mem_nil, or_false] at hf
  rcases hf with rfl | rfl <;> exact ⟨by dsimp only; omega, by dsimp only; omega, by dsimp only; omega⟩
theorem lit2_enc : encE lit2 = 0 ∧ encR lit2 = [2, 5, 7, 2, 97, 98] := by
  have e : encB lit2 = [2, 5, 7, 2, 97, 98] := by simp [lit2, encB, one, venc_lo]
  have h : encE lit2 = 0 := by unfold encE; rw [e]; decide
  exact ⟨h, by unfold encR; rw [if_pos h, e]⟩
theorem dec25 : dec [2, 5] = ([⟨1, false, 5, []⟩], 0, 0) := by
  have h := dec_enc lit1_wf lit1_enc.1
  rw [lit1_enc.2] at h
  rw [h]
  rfl
theorem rd_lit2 (w : World) (g g2 : Nat) (hg : w.heap.size = g) (hr : Rd w (some ⟨g2, 0, none⟩) 2 (u8s [97, 98])) :
    FsRd (w.alloc (.cells #[.int .i64 1, .bool false, .int .u64 5, .slice none 0 0, .int .i64 3, .bool true, .int .u64 0, .slice (some ⟨g2, 0, none⟩) 2 2] 29)) (some ⟨g, 0, none⟩) 2 lit2 := by
  subst hg
  have h := rd_new w #[.int .i64 1, .bool false, .int .u64 5, .slice none 0 0, .int .i64 3, .bool true, .int .u64 0, .slice (some ⟨g2, 0, none⟩) 2 2] 29
  refine ⟨[(⟨1, false, 5, []⟩, none, 0), (⟨3, true, 0, [97, 98]⟩, some ⟨g2, 0, none⟩, 2)], rfl, ⟨rfl, fun _ => h.2 (by simp)⟩, fun g hg => ?_⟩
  simp only [List.mem_cons, List.not_mem_nil, or_false] at hg
  rcases hg with rfl | rfl
  · exact Rd.nil_ _ _
  · exact hr.ext (by repeat (first | with_reducible exact Below.refl _ _ | with_reducible assumption | with_reducible refine ExtD ?_ | with_reducible refine ExtDN ?_ | with_reducible refine ExtA ?_ | (with_reducible refine ExtR ?_ ?_; (first | omega | (dsimp only; omega) | (simp; done) | (simp; omega))) | (with_reducible refine ExtS ?_ ?_; (first | omega | (dsimp only; omega) | (simp; done) | (simp; omega))) | with_reducible refine Ext.tr ?_ (by with_reducible assumption)))
theorem rd_mark (w : World) (cs : Array Value) (t : TypeId) (fr : Nat × Nat) : Rd (w.alloc (.cells cs t fr)) (some ⟨w.heap.size, 0, none⟩) cs.size cs.toList := by
  refine ⟨by simp, fun _ => ⟨w.heap.size, 0, rfl, fun j u hu => ?_⟩⟩
  rw [Nat.zero_add, cell_of_row _ _ j cs t fr (heap_alloc_new w _)]
  simpa using hu
set_option maxRecDepth 100000 in
set_option maxHeartbeats 2000000 in
theorem head_any (w : World) : Calls Try.prog 16 #[] w fun e w' => e = .returned (.bool true) ∧ Ext w w' := by
  have K1 : Hid (∀ (w : World) (g g2 : Nat), w.heap.size = g → Rd w (some ⟨g2, 0, none⟩) 2 (u8s [97, 98]) → Calls Try.prog 17 #[.slice (some ⟨g, 0, none⟩) 2 2] (w.alloc (.cells #[.int .i64 1, .bool false, .int .u64 5, .slice none 0 0, .int .i64 3, .bool true, .int .u64 0, .slice (some ⟨g2, 0, none⟩) 2 2] 29)) fun e w' => ∃ A c, e = .returned (.tuple #[.slice A 6 c, .int .i64 0]) ∧ Ext w w' ∧ Rd w' A 6 (u8s [2, 5, 7, 2, 97, 98])) :=
    Lib.hid fun w g g2 hg hr => (tenc_any _ 2 2 lit2 _ (rd_lit2 w g g2 hg hr) lit2_wf (by decide)).mono fun e w' ⟨A, c, he, hx, hown⟩ => by
      rw [lit2_enc.1, lit2_enc.2] at he
      rw [lit2_enc.2] at hown
      exact ⟨A, c, he, Ext.tr (ExtA (Ext.rfl' w)) hx, rd_own hown⟩
  have K2 : Hid (∀ (w : World) (g : Nat), w.heap.size = g → Calls Try.prog 21 #[.slice (some ⟨g, 0, none⟩) 2 2] (w.alloc (.cells #[.int .u8 2, .int .u8 5] 5)) fun e w' => ∃ b c, e = .returned (.tuple #[.slice (some ⟨b, 0, none⟩) 1 c, .int .i64 0, .int .i64 0]) ∧ Ext w w' ∧ w'.cell? ⟨b, 2, none⟩ = some (.int .u64 5)) := by
    refine Lib.hid fun w g hg => ?_
    subst hg
    refine (tdec_any _ 2 2 [2, 5] _ (rd_new w #[.int .u8 2, .int .u8 5] _) (by omega) (by decide)).mono fun e w' ⟨A, c, hs, he, hx, hown, hm⟩ => ?_
    rw [dec25] at he hown hm
    have hrd := OwnFs.rd hown
    rw [hm] at hrd
    obtain ⟨b, o, f, Af, cf, hf, hA, hc, _⟩ := fs_at hrd (k := 0) (by decide)
    simp at hf
    subst hf
    rcases hown.1.2 with ⟨_, h0⟩ | ⟨g, cap, cur, hv, _⟩
    · exact absurd h0 (by decide)
    · injection hv with h1 h2 h3
      subst h1
      injection hA with hA
      injection hA with h4 h5
      subst h4 h5
      refine ⟨g, c, he, Ext.tr (ExtA (Ext.rfl' w)) hx, ?_⟩
      have h6 := hc 2 _ rfl
      simpa using h6
  have kc := fun (w : World) (C : Array Value) (n c : Nat) => Lib.run_convert_bytes_const (P := Try.prog) w 23 5 C n c Try.underlying23 Try.underlying5
  have R2 : Hid (Rd (w.alloc (.cells #[.int .u8 97, .int .u8 98] 5 (2, 3))) (some ⟨w.heap.size, 0, none⟩) 2 (u8s [97, 98])) := Lib.hid (rd_mark w #[.int .u8 97, .int .u8 98] _ _)
  have R6 : Hid (∀ (w : World) (g : Nat), w.heap.size = g → Rd (w.alloc (.cells #[.int .u8 2, .int .u8 5, .int .u8 7, .int .u8 2, .int .u8 97, .int .u8 98] 5)) (some ⟨g, 0, none⟩) 6 (u8s [2, 5, 7, 2, 97, 98])) := Lib.hid fun w g hg => by subst hg; exact rd_new w #[.int .u8 2, .int .u8 5, .int .u8 7, .int .u8 2, .int .u8 97, .int .u8 98] _
  go_enter Try.func16, Try.ntmps16
  go_wp2_with (first
    | (go_at_call 17; go_must (with_reducible refine (K1.out _ _ _ (by simp) R2.out).mono ?_); rintro e w1 ⟨A1, c1, rfl, hx1, hr1⟩)
    | (go_at_call 21; go_must (with_reducible refine (K2.out _ _ (by simp)).mono ?_); rintro e w2 ⟨b2, c2, rfl, hx2, hc2⟩)
    | (go_at_call 15; go_must (with_reducible refine (same_yes A1 _ 6 c1 6 6 [2, 5, 7, 2, 97, 98] _ (hr1.ext (ExtA hx2)) (R6.out _ _ (by simp)) (by decide)).mono ?_); rintro e w3 ⟨rfl, hx3⟩; have hc3 := Ext.cell (Ext.tr (ExtA (Ext.rfl' w2)) hx3) hc2))
  go_ret
  exact ⟨rfl, (by repeat (first | with_reducible exact Below.refl _ _ | with_reducible assumption | with_reducible refine ExtD ?_ | with_reducible refine ExtDN ?_ | with_reducible refine ExtA ?_ | (with_reducible refine ExtR ?_ ?_; (first | omega | (dsimp only; omega) | (simp; done) | (simp; omega))) | (with_reducible refine ExtS ?_ ?_; (first | omega | (dsimp only; omega) | (simp; done) | (simp; omega))) | with_reducible refine Ext.tr ?_ (by with_reducible assumption)))⟩
set_option maxRecDepth 100000 in
set_option maxHeartbeats 2000000 in
theorem tlvEncodes_walk (A : Option Addr) (n c : Nat) (fs : List Fld) (w : World) (hr : FsRd w A n fs) (hw : FWf fs) (hn : n * 48 ≤ 140737488351232) (hb : ∀ f ∈ fs, f.bytes.length ≤ 140737488351232) :
    Calls Try.prog 4 #[.slice A n c] w fun e w' => e = .returned (.bool true) ∧ Ext w w' := by
  have hl := hr.len
  have K1 : Hid (∀ w', Ext w w' → Calls Try.prog 13 #[.slice A n c] w' (EncPost w' fs)) := Lib.hid fun w' hx => renc_any A n c fs w' (hr.ext hx) hw (by simp only [maxLen]; omega)
  have K2 : Hid (∀ w', Ext w w' → Calls Try.prog 14 #[.slice A n c] w' (FCopPost w' fs)) := Lib.hid fun w' hx => fcopy_any A n c fs w' (hr.ext hx) (by omega) fun f hf => by have := hb f hf; omega
  have Hm : Hid (n ≤ maxLen) := Lib.hid (by simp only [maxLen]; omega)
  have Hb : Hid (∀ f ∈ fs, f.bytes.length ≤ maxLen) := Lib.hid fun f hf => by have := hb f hf; simp only [maxLen]; omega
  have Hr := Lib.hid hr
  have Hl := Lib.hid hl
  have Hw := Lib.hid hw
  obtain ⟨E, hE⟩ : ∃ E, E = encE fs := ⟨_, rfl⟩
  obtain ⟨R, hR⟩ : ∃ R, R = encR fs := ⟨_, rfl⟩
  have HE := Lib.hid hE
  have HR := Lib.hid hR
  clear hr hw hn hb hl hE hR
  go_enter Try.func4, Try.ntmps4
  go_wp2_with (first
    | (go_at_call 16; go_must (with_reducible refine (head_any _).mono ?_); rintro e w0 ⟨rfl, hx0⟩)
    | (go_at_call 14; go_must (with_reducible refine (K2.out _ hx0).mono ?_); rintro e w3 ⟨A3, c3, hs3, rfl, hmap, hx3, hown3⟩; have Hmap := Lib.hid hmap; clear hmap; have hrd := OwnFs.rd hown3; rw [Hmap.out] at hrd; have Hrd := Lib.hid hrd; clear hrd; have e3 := Lib.hid Hl.out; rw [Hl.out])
    | (go_at_call 13; go_must (with_reducible refine (K1.out _ (hx0.tr hx3)).mono ?_); rintro e w2 ⟨A2, c2, rfl, hx2, hown2⟩; rw [← HE.out, ← HR.out])
    | (go_at_call 17; (with_reducible refine (tenc_any A3 n c3 fs _ (by rw [← Hl.out]; exact Hrd.out.ext hx2) Hw.out Hm.out).mono ?_); rintro e w4 ⟨A4, c4, rfl, hx4, hown4⟩; rw [← HE.out, ← HR.out])
    | (go_at_call 15; go_must (with_reducible refine (same_yes A4 A2 _ c4 _ c2 R _ (by rw [HR.out]; exact rd_own hown4) ((rd_own (by rw [HR.out]; exact hown2)).ext hx4) (by rw [HR.out]; have := encR_max fs; simp only [maxLen]; omega)).mono ?_); rintro e w5 ⟨rfl, hx5⟩)
    | (go_at_call 18; go_must (with_reducible refine (alike_yes A3 A n c3 n c fs fs _ (by rw [← Hl.out]; exact Hrd.out.ext (hx2.tr (hx4.tr hx5))) (Hr.out.ext (hx0.tr (hx3.tr (hx2.tr (hx4.tr hx5))))) Hm.out rfl Hb.out).mono ?_); rintro e w6 ⟨rfl, hx6⟩))
  go_ret
  exact ⟨rfl, (by repeat (first | with_reducible exact Below.refl _ _ | with_reducible assumption | with_reducible refine ExtD ?_ | with_reducible refine ExtDN ?_ | with_reducible refine ExtA ?_ | (with_reducible refine ExtR ?_ ?_; (first | omega | (dsimp only; omega) | (simp; done) | (simp; omega))) | (with_reducible refine ExtS ?_ ?_; (first | omega | (dsimp only; omega) | (simp; done) | (simp; omega))) | with_reducible refine Ext.tr ?_ (by with_reducible assumption)))⟩
end Go.Proofs.Ytcekdfhbbfednaa
