/-
  The walks of tlv.put and of the reference's One.
-/
import Derived.Test.YtipdilmlodakoaaFldW
import Derived.Test.YtipdilmlodakoaaVarW
import Derived.Deep.RegionHeld3
namespace Go.Proofs.Ytipdilmlodakoaa
open Go.RowKit
set_option linter.unusedVariables false
set_option linter.unusedSimpArgs false
theorem one_num (tag : Int) (num : Nat) (bytes : List UInt8) : one ⟨tag, false, num, bytes⟩ = venc (tag.toNat * 2) ++ venc num := rfl
theorem one_text (tag : Int) (num : Nat) (bytes : List UInt8) : one ⟨tag, true, num, bytes⟩ = venc (tag.toNat * 2 + 1) ++ (venc bytes.length ++ bytes) := rfl
set_option maxRecDepth 100000 in
set_option maxHeartbeats 2000000 in
theorem put_any (W w : World) (f : Fld) (A : Option Addr) (c : Nat) (A0 : Option Addr) (n0 c0 : Nat) (l : List UInt8) (hx : Ext W w)
    (hown : w.ownsRow W.heap.size 5 1 (.slice A0 n0 c0) n0 (u8s l)) (hr : Rd W A f.bytes.length (u8s f.bytes)) (h1 : 1 ≤ f.tag) (h2 : f.tag ≤ 31) (hn : f.num < 18446744073709551616) (hb : f.bytes.length ≤ 200 ∨ f.text = false) (hl : l.length ≤ 100000) :
    Calls Try.prog 71 #[.slice A0 n0 c0, .agg (fcells f A c)] w (NewB W (l ++ one f)) := by
  obtain ⟨tag, text, num, bytes⟩ := f
  unfold fcells
  dsimp only at *
  obtain ⟨T, rfl⟩ : ∃ T : Nat, tag = (T : Int) := ⟨tag.toNat, by omega⟩
  have Hown := Lib.hid hown
  have Hn : Hid (num ≤ 18446744073709551615) := Lib.hid (by omega)
  clear hown hn
  cases text with
  | false =>
    have Hone := Lib.hid (one_num (T : Int) num bytes)
    clear hr hb
    have k1 : ∀ w, Calls Try.prog 54 #[.int .u64 ((T : Int) * 2)] w (NewB w (venc (T * 2))) := fun w => venc_any (T * 2) w (by omega)
    have k2 : ∀ w, Calls Try.prog 54 #[.int .u64 (num : Nat)] w (NewB w (venc num)) := fun w => venc_any num w Hn.out
    have K1 := Lib.hid k1
    have K2 := Lib.hid k2
    have L1 := Lib.hid (venc_len10 (T * 2) (by omega))
    have L2 := Lib.hid (venc_len10 num (by have := Hn.out; omega))
    clear k1 k2
    go_enter Try.func71, Try.ntmps71
    go_wp2_with (first
      | (go_at_call 54; (with_reducible refine (K1.out _).mono ?_); rintro e w1 ⟨A1, c1, rfl, hx1, hown1⟩; have b1 : Blk w1 w.heap.size 54 _ := hx1.blk (BlkN rfl); have hw1 : Ext w w1 := (by repeat (first | with_reducible exact Below.refl _ _ | with_reducible assumption | with_reducible refine ExtD ?_ | with_reducible refine ExtDN ?_ | with_reducible refine ExtA ?_ | (with_reducible refine ExtR ?_ ?_; (first | omega | (dsimp only; omega) | (simp; done) | (simp; omega))) | (with_reducible refine ExtS ?_ ?_; (first | omega | (dsimp only; omega) | (simp; done) | (simp; omega))) | with_reducible refine Ext.tr ?_ (by with_reducible assumption))); have hW1 : Ext W w1 := hx.tr hw1)
      | (at_builtin; refine wpB_append rfl (.tmp 13) (.tmp 15) rfl W rfl (own_ext hw1 Hown.out) hW1 rfl (rd_own hown1) (by have := L1.out; omega) ?_; intro A2 n2 c2 w2 hx2 hn2 hown2 hk2 hg2; have b2 := hk2 _ 54 _ (by decide) b1; have e2 : w2.cell? ⟨w.heap.size, 2, none⟩ = some (.int .u64 (num : Nat)) := b2.cell 2; clear hk2 hg2)
      | (go_at_call 54; (with_reducible refine (K2.out _).mono ?_); rintro e w3 ⟨A3, c3, rfl, hx3, hown3⟩; have hW3 : Ext W w3 := hx2.tr hx3)
      | (at_builtin; refine wpB_append rfl (.tmp 17) (.tmp 20) rfl W rfl (own_ext hx3 hown2) hW3 rfl (rd_own hown3) (by have := L1.out; have := L2.out; simp; omega) ?_; intro A4 n4 c4 w4 hx4 hn4 hown4 hk4 hg4))
    go_ret
    rw [hn4.out] at hown4 ⊢
    rw [Hone.out, Int.toNat_natCast, ← List.append_assoc]
    exact ⟨A4, c4, rfl, hx4, hown4⟩
  | true =>
    have Hone := Lib.hid (one_text (T : Int) num bytes)
    obtain hb : bytes.length ≤ 200 := by rcases hb with h | h; exact h; cases h
    have k1 : ∀ w, Calls Try.prog 54 #[.int .u64 ((T : Int) * 2 + 1)] w (NewB w (venc (T * 2 + 1))) := fun w => venc_any (T * 2 + 1) w (by omega)
    have k2 : ∀ w, Calls Try.prog 54 #[.int .u64 (bytes.length : Nat)] w (NewB w (venc bytes.length)) := fun w => venc_any bytes.length w (by omega)
    have K1 := Lib.hid k1
    have K2 := Lib.hid k2
    have L1 := Lib.hid (venc_len10 (T * 2 + 1) (by omega))
    have L2 := Lib.hid (venc_len10 bytes.length (by omega))
    have Hr := Lib.hid hr
    clear k1 k2 hr
    go_enter Try.func71, Try.ntmps71
    go_wp2_with (first
      | (go_at_call 54; (with_reducible refine (K1.out _).mono ?_); rintro e w1 ⟨A1, c1, rfl, hx1, hown1⟩; have b1 : Blk w1 w.heap.size 54 _ := hx1.blk (BlkN rfl); have hw1 : Ext w w1 := (by repeat (first | with_reducible exact Below.refl _ _ | with_reducible assumption | with_reducible refine ExtD ?_ | with_reducible refine ExtDN ?_ | with_reducible refine ExtA ?_ | (with_reducible refine ExtR ?_ ?_; (first | omega | (dsimp only; omega) | (simp; done) | (simp; omega))) | (with_reducible refine ExtS ?_ ?_; (first | omega | (dsimp only; omega) | (simp; done) | (simp; omega))) | with_reducible refine Ext.tr ?_ (by with_reducible assumption))); have hW1 : Ext W w1 := hx.tr hw1)
      | (at_builtin; refine wpB_append rfl (.tmp 22) (.tmp 25) rfl W rfl (own_ext hw1 Hown.out) hW1 rfl (rd_own hown1) (by have := L1.out; omega) ?_; intro A2 n2 c2 w2 hx2 hn2 hown2 hk2 hg2; have b2 := hk2 _ 54 _ (by decide) b1; have e2 : w2.cell? ⟨w.heap.size, 3, none⟩ = some (.slice A bytes.length c) := b2.cell 3; clear hk2 hg2)
      | (go_at_call 54; (with_reducible refine (K2.out _).mono ?_); rintro e w3 ⟨A3, c3, rfl, hx3, hown3⟩; have hW3 : Ext W w3 := hx2.tr hx3; have b3 := hx3.blk b2)
      | (at_builtin; refine wpB_append rfl (.tmp 27) (.tmp 32) rfl W rfl (own_ext hx3 hown2) hW3 rfl (rd_own hown3) (by have := L1.out; have := L2.out; simp; omega) ?_; intro A4 n4 c4 w4 hx4 hn4 hown4 hk4 hg4; have b4 := hk4 _ 54 _ (by decide) b3; have e4 : w4.cell? ⟨w.heap.size, 3, none⟩ = some (.slice A bytes.length c) := b4.cell 3; clear hk4 hg4)
      | (at_builtin; refine wpB_append rfl (.tmp 34) (.tmp 36) rfl W rfl hown4 hx4 rfl (Hr.out.ext hx4) (by have := L1.out; have := L2.out; simp; omega) ?_; intro A5 n5 c5 w5 hx5 hn5 hown5 hk5 hg5))
    go_ret
    rw [hn5.out] at hown5 ⊢
    rw [Hone.out, Int.toNat_natCast, ← List.append_assoc, ← List.append_assoc]
    exact ⟨A5, c5, rfl, hx5, hown5⟩
end Go.Proofs.Ytipdilmlodakoaa
