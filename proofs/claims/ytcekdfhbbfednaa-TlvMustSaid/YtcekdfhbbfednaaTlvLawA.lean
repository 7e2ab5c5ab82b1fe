/-
  The walk of the law TlvMust.
-/
import Derived.Test.YtcekdfhbbfednaaMustW
import Derived.Test.YtcekdfhbbfednaaFsC
namespace Go.Proofs.Ytcekdfhbbfednaa
open Go.RowKit
set_option linter.unusedVariables false
set_option linter.unusedSimpArgs false
theorem rd_lit1 (w : World) (g : Nat) (hg : w.heap.size = g) : FsRd (w.alloc (.cells #[.int .i64 1, .bool false, .int .u64 5, .slice none 0 0] 29)) (some ⟨g, 0, none⟩) 1 [⟨1, false, 5, []⟩] := by
  subst hg
  have h := rd_new w #[.int .i64 1, .bool false, .int .u64 5, .slice none 0 0] 29
  refine ⟨[(⟨1, false, 5, []⟩, none, 0)], rfl, ⟨rfl, fun _ => h.2 (by simp)⟩, fun g hg => ?_⟩
  simp only [List.mem_singleton] at hg
  subst hg
  exact Rd.nil_ _ _
theorem lit1_wf : FWf [⟨1, false, 5, []⟩] := by
  intro f hf
  simp only [List.mem_singleton] at hf
  subst hf
  exact ⟨by dsimp only; omega, by dsimp only; omega, by dsimp only; omega⟩
theorem lit1_enc : encE [⟨1, false, 5, []⟩] = 0 ∧ encR [⟨1, false, 5, []⟩] = [2, 5] := by
  have e : encB [⟨1, false, 5, []⟩] = [2, 5] := by simp [encB, one, venc_lo]
  have h : encE [⟨1, false, 5, []⟩] = 0 := by unfold encE; rw [e]; decide
  exact ⟨h, by unfold encR; rw [if_pos h, e]⟩
theorem same_yes (A B : Option Addr) (n c n2 c2 : Nat) (l : List UInt8) (w : World) (h1 : Rd w A n (u8s l)) (h2 : Rd w B n2 (u8s l)) (hn : n ≤ maxLen) :
    Calls Try.prog 15 #[.slice A n c, .slice B n2 c2] w fun e w' => e = .returned (.bool true) ∧ Ext w w' :=
  (same_any A B n c n2 c2 l l w h1 h2 hn).mono fun e w' ⟨he, hx⟩ => ⟨by rw [he]; simp, hx⟩
theorem encR_max (fs : List Fld) : (encR fs).length ≤ 1024 := by
  unfold encR
  by_cases h : encE fs = 0
  · rw [if_pos h]
    unfold encE at h
    by_cases h1 : faults 0 fs ≠ 0
    · rw [if_pos h1] at h; exact absurd h h1
    · rw [if_neg h1] at h
      by_cases h2 : 1024 < (encB fs).length
      · rw [if_pos h2] at h; cases h
      · omega
  · rw [if_neg h]; simp
set_option maxRecDepth 100000 in
set_option maxHeartbeats 2000000 in
theorem tlvMust_walk (A : Option Addr) (n c : Nat) (fs : List Fld) (w : World) (hr : FsRd w A n fs) (hw : FWf fs) (hn : n * 48 ≤ 140737488351232) (hb : ∀ f ∈ fs, f.bytes.length ≤ 140737488351232) :
    Calls Try.prog 3 #[.slice A n c] w fun e w' => e = .returned (.bool true) ∧ Ext w w' := by
  have hl := hr.len
  have K0 : Hid (∀ w, Calls Try.prog 12 #[.slice (some ⟨w.heap.size, 0, none⟩) 1 1] (w.alloc (.cells #[.int .i64 1, .bool false, .int .u64 5, .slice none 0 0] 29)) fun e w' => ∃ A c, e = .returned (.tuple #[.slice A 2 c, .int .i64 0]) ∧ Ext w w') :=
    Lib.hid fun w => (mustOf_any _ 1 1 _ _ (rd_lit1 w _ rfl) lit1_wf (by decide)).mono fun e w' ⟨A, c, he, hx, _⟩ => ⟨A, c, by rw [he, lit1_enc.1, lit1_enc.2]; rfl, Ext.tr (ExtA (Ext.rfl' w)) hx⟩
  have K1 : Hid (∀ w', Ext w w' → Calls Try.prog 13 #[.slice A n c] w' (EncPost w' fs)) := Lib.hid fun w' hx => renc_any A n c fs w' (hr.ext hx) hw (by simp only [maxLen]; omega)
  have K2 : Hid (∀ w', Ext w w' → Calls Try.prog 14 #[.slice A n c] w' (FCopPost w' fs)) := Lib.hid fun w' hx => fcopy_any A n c fs w' (hr.ext hx) (by omega) fun f hf => by have := hb f hf; omega
  have Hm : Hid (n ≤ maxLen) := Lib.hid (by simp only [maxLen]; omega)
  have Hl := Lib.hid hl
  have Hw := Lib.hid hw
  obtain ⟨E, hE⟩ : ∃ E, E = encE fs := ⟨_, rfl⟩
  obtain ⟨R, hR⟩ : ∃ R, R = encR fs := ⟨_, rfl⟩
  have HE := Lib.hid hE
  have HR := Lib.hid hR
  clear hr hw hn hb hl hE hR
  go_enter Try.func3, Try.ntmps3
  go_wp2_with (first
    | (go_at_call 12; (with_reducible refine (K0.out _).mono ?_); rintro e w1 ⟨A1, c1, rfl, hx1⟩)
    | (go_at_call 13; go_must (with_reducible refine (K1.out _ hx1).mono ?_); rintro e w2 ⟨A2, c2, rfl, hx2, hown2⟩; rw [← HE.out, ← HR.out])
    | (go_at_call 14; go_must (with_reducible refine (K2.out _ (hx1.tr hx2)).mono ?_); rintro e w3 ⟨A3, c3, hs3, rfl, hmap, hx3, hown3⟩; have Hmap := Lib.hid hmap; clear hmap; have hrd := OwnFs.rd hown3; rw [Hmap.out] at hrd)
    | (go_at_call 12; (with_reducible refine (mustOf_any A3 _ c3 fs _ hrd Hw.out (by rw [Hl.out]; exact Hm.out)).mono ?_); rintro e w4 ⟨A4, c4, rfl, hx4, hrd4⟩; rw [← HE.out, ← HR.out])
    | (go_at_call 15; go_must (with_reducible refine (same_yes A4 A2 _ c4 _ c2 R _ (by rw [HR.out]; exact hrd4) ((rd_own (by rw [HR.out]; exact hown2)).ext (hx3.tr hx4)) (by rw [HR.out]; have := encR_max fs; simp only [maxLen]; omega)).mono ?_); rintro e w5 ⟨rfl, hx5⟩))
  go_ret
  exact ⟨rfl, (by repeat (first | with_reducible exact Below.refl _ _ | with_reducible assumption | with_reducible refine ExtD ?_ | with_reducible refine ExtDN ?_ | with_reducible refine ExtA ?_ | (with_reducible refine ExtR ?_ ?_; (first | omega | (dsimp only; omega) | (simp; done) | (simp; omega))) | (with_reducible refine ExtS ?_ ?_; (first | omega | (dsimp only; omega) | (simp; done) | (simp; omega))) | with_reducible refine Ext.tr ?_ (by with_reducible assumption)))⟩
end Go.Proofs.Ytcekdfhbbfednaa
