/-
  Fields in memory, and the walks of tlv.check and of the reference's Fault.
-/
/-
  The walks of tlv.put and of the reference's One.
-/
import Derived.Test.YtjajbbgebblalaaGreatDoorBytesW
import Derived.Test.YtjajbbgebblalaaGreatDoorVarP
import Derived.Test.YtjajbbgebblalaaGreatDoorVarW
import Derived.Deep.RegionHeld3
namespace Go.Proofs.YtjajbbgebblalaaGreatDoor
open Go.RowKit
set_option linter.unusedVariables false
set_option linter.unusedSimpArgs false
def fcells (f : Fld) (A : Option Addr) (c : Nat) : Array Value := #[.int .i64 f.tag, .bool f.text, .int .u64 (f.num : Nat), .slice A f.bytes.length c]
theorem fcells_size (f : Fld) (A : Option Addr) (c : Nat) : (fcells f A c).size = 4 := rfl
theorem fcells_one (f : Fld) (A : Option Addr) (c : Nat) : ∀ v ∈ (fcells f A c).toList, v.oneCell' = true := by
  intro v hv; simp [fcells] at hv; rcases hv with rfl | rfl | rfl | rfl <;> rfl
theorem fld_wide : Wide Tryz.prog 210 4 := ⟨⟨_, Tryz.underlying210, rfl⟩, by kernel_rfl⟩
theorem ret_i64 {a b : Int} (h : a = b) : Ending.returned (.int .i64 a) = .returned (.int .i64 b) := by rw [h]
def FaultPost (w : World) (f : Fld) (last : Int) (e : Ending) (w' : World) : Prop := e = .returned (.int .i64 (fault f last : Nat)) ∧ Ext w w'
theorem fault_tag {f : Fld} {last : Int} (h : f.tag < 1 ∨ 31 < f.tag) : fault f last = 20 := by unfold fault; rw [if_pos h]
theorem fault_order {f : Fld} {last : Int} (h : ¬ (f.tag < 1 ∨ 31 < f.tag)) (h2 : f.tag ≤ last) : fault f last = 21 := by unfold fault; rw [if_neg h, if_pos h2]
theorem fault_text {f : Fld} {last : Int} (h : ¬ (f.tag < 1 ∨ 31 < f.tag)) (h2 : ¬ f.tag ≤ last) (h3 : f.text = true) : fault f last = if f.bytes.length = 0 then 22 else if 200 < f.bytes.length then 23 else 0 := by
  unfold fault; rw [if_neg h, if_neg h2, if_pos h3]
theorem fault_num {f : Fld} {last : Int} (h : ¬ (f.tag < 1 ∨ 31 < f.tag)) (h2 : ¬ f.tag ≤ last) (h3 : f.text = false) : fault f last = if f.num = 0 then 22 else 0 := by
  unfold fault; rw [if_neg h, if_neg h2, if_neg (by simp [h3])]
set_option maxHeartbeats 1000000 in
theorem check_any (f : Fld) (A : Option Addr) (c : Nat) (last : Int) (w : World) :
    Calls Tryz.prog 216 #[.agg (fcells f A c), .int .i64 last] w (FaultPost w f last) := by
  obtain ⟨tag, text, num, bytes⟩ := f
  unfold fcells
  dsimp only
  by_cases h1 : tag < 1
  · have Hf := Lib.hid (fault_tag (f := ⟨tag, text, num, bytes⟩) (last := last) (.inl h1))
    go_enter Tryz.func216, Tryz.ntmps216
    go_wp2_with fail
    go_ret
    exact ⟨by rw [Hf.out]; rfl, (by repeat (first | with_reducible exact Below.refl _ _ | with_reducible assumption | with_reducible refine ExtD ?_ | with_reducible refine ExtDN ?_ | with_reducible refine ExtA ?_ | (with_reducible refine ExtR ?_ ?_; (first | omega | (dsimp only; omega) | (simp; done) | (simp; omega))) | (with_reducible refine ExtS ?_ ?_; (first | omega | (dsimp only; omega) | (simp; done) | (simp; omega))) | with_reducible refine Ext.tr ?_ (by with_reducible assumption)))⟩
  by_cases h2 : 31 < tag
  · have Hf := Lib.hid (fault_tag (f := ⟨tag, text, num, bytes⟩) (last := last) (.inr h2))
    go_enter Tryz.func216, Tryz.ntmps216
    go_wp2_with fail
    go_ret
    exact ⟨by rw [Hf.out]; rfl, (by repeat (first | with_reducible exact Below.refl _ _ | with_reducible assumption | with_reducible refine ExtD ?_ | with_reducible refine ExtDN ?_ | with_reducible refine ExtA ?_ | (with_reducible refine ExtR ?_ ?_; (first | omega | (dsimp only; omega) | (simp; done) | (simp; omega))) | (with_reducible refine ExtS ?_ ?_; (first | omega | (dsimp only; omega) | (simp; done) | (simp; omega))) | with_reducible refine Ext.tr ?_ (by with_reducible assumption)))⟩
  by_cases h3 : tag ≤ last
  · have Hf := Lib.hid (fault_order (f := ⟨tag, text, num, bytes⟩) (last := last) (by dsimp only; omega) h3)
    go_enter Tryz.func216, Tryz.ntmps216
    go_wp2_with fail
    go_ret
    exact ⟨by rw [Hf.out]; rfl, (by repeat (first | with_reducible exact Below.refl _ _ | with_reducible assumption | with_reducible refine ExtD ?_ | with_reducible refine ExtDN ?_ | with_reducible refine ExtA ?_ | (with_reducible refine ExtR ?_ ?_; (first | omega | (dsimp only; omega) | (simp; done) | (simp; omega))) | (with_reducible refine ExtS ?_ ?_; (first | omega | (dsimp only; omega) | (simp; done) | (simp; omega))) | with_reducible refine Ext.tr ?_ (by with_reducible assumption)))⟩
  cases text with
  | true =>
    have Hf := Lib.hid (fault_text (f := ⟨tag, true, num, bytes⟩) (last := last) (by dsimp only; omega) h3 rfl)
    have H4 : Hid (fault ⟨tag, true, num, bytes⟩ last = if bytes.length = 0 then 22 else if 200 < bytes.length then 23 else 0) := Hf
    clear Hf
    generalize bytes.length = n at *
    by_cases h4 : n = 0
    · have h40 := Lib.hid h4
      subst h4
      go_enter Tryz.func216, Tryz.ntmps216
      go_wp2_with fail
      go_ret
      exact ⟨by rw [H4.out, if_pos h40.out]; rfl, (by repeat (first | with_reducible exact Below.refl _ _ | with_reducible assumption | with_reducible refine ExtD ?_ | with_reducible refine ExtDN ?_ | with_reducible refine ExtA ?_ | (with_reducible refine ExtR ?_ ?_; (first | omega | (dsimp only; omega) | (simp; done) | (simp; omega))) | (with_reducible refine ExtS ?_ ?_; (first | omega | (dsimp only; omega) | (simp; done) | (simp; omega))) | with_reducible refine Ext.tr ?_ (by with_reducible assumption)))⟩
    · have t4 : ((n : Int) == 0) = false := by simp; omega
      have h40 := Lib.hid h4
      clear h4
      by_cases h5 : 200 < n
      · have h50 := Lib.hid h5
        go_enter Tryz.func216, Tryz.ntmps216
        go_wp2_with fail
        go_ret
        exact ⟨by rw [H4.out, if_neg h40.out, if_pos h50.out]; rfl, (by repeat (first | with_reducible exact Below.refl _ _ | with_reducible assumption | with_reducible refine ExtD ?_ | with_reducible refine ExtDN ?_ | with_reducible refine ExtA ?_ | (with_reducible refine ExtR ?_ ?_; (first | omega | (dsimp only; omega) | (simp; done) | (simp; omega))) | (with_reducible refine ExtS ?_ ?_; (first | omega | (dsimp only; omega) | (simp; done) | (simp; omega))) | with_reducible refine Ext.tr ?_ (by with_reducible assumption)))⟩
      · have h50 := Lib.hid h5
        have t5 : decide ((200 : Int) < (n : Int)) = false := by simp; omega
        clear h5
        go_enter Tryz.func216, Tryz.ntmps216
        go_wp2_with fail
        go_ret
        exact ⟨by rw [H4.out, if_neg h40.out, if_neg h50.out]; rfl, (by repeat (first | with_reducible exact Below.refl _ _ | with_reducible assumption | with_reducible refine ExtD ?_ | with_reducible refine ExtDN ?_ | with_reducible refine ExtA ?_ | (with_reducible refine ExtR ?_ ?_; (first | omega | (dsimp only; omega) | (simp; done) | (simp; omega))) | (with_reducible refine ExtS ?_ ?_; (first | omega | (dsimp only; omega) | (simp; done) | (simp; omega))) | with_reducible refine Ext.tr ?_ (by with_reducible assumption)))⟩
  | false =>
    have Hf := Lib.hid (fault_num (f := ⟨tag, false, num, bytes⟩) (last := last) (by dsimp only; omega) h3 rfl)
    have H4 : Hid (fault ⟨tag, false, num, bytes⟩ last = if num = 0 then 22 else 0) := Hf
    clear Hf
    by_cases h4 : num = 0
    · have h40 := Lib.hid h4
      subst h4
      go_enter Tryz.func216, Tryz.ntmps216
      go_wp2_with fail
      go_ret
      exact ⟨by rw [H4.out, if_pos h40.out]; rfl, (by repeat (first | with_reducible exact Below.refl _ _ | with_reducible assumption | with_reducible refine ExtD ?_ | with_reducible refine ExtDN ?_ | with_reducible refine ExtA ?_ | (with_reducible refine ExtR ?_ ?_; (first | omega | (dsimp only; omega) | (simp; done) | (simp; omega))) | (with_reducible refine ExtS ?_ ?_; (first | omega | (dsimp only; omega) | (simp; done) | (simp; omega))) | with_reducible refine Ext.tr ?_ (by with_reducible assumption)))⟩
    · have t4 : ((num : Int) == 0) = false := by simp; omega
      have h40 := Lib.hid h4
      clear h4
      go_enter Tryz.func216, Tryz.ntmps216
      go_wp2_with fail
      go_ret
      exact ⟨by rw [H4.out, if_neg h40.out]; rfl, (by repeat (first | with_reducible exact Below.refl _ _ | with_reducible assumption | with_reducible refine ExtD ?_ | with_reducible refine ExtDN ?_ | with_reducible refine ExtA ?_ | (with_reducible refine ExtR ?_ ?_; (first | omega | (dsimp only; omega) | (simp; done) | (simp; omega))) | (with_reducible refine ExtS ?_ ?_; (first | omega | (dsimp only; omega) | (simp; done) | (simp; omega))) | with_reducible refine Ext.tr ?_ (by with_reducible assumption)))⟩
set_option maxHeartbeats 1000000 in
theorem fault_any (f : Fld) (A : Option Addr) (c : Nat) (last : Int) (w : World) :
    Calls Tryz.prog 155 #[.agg (fcells f A c), .int .i64 last] w (FaultPost w f last) := by
  obtain ⟨tag, text, num, bytes⟩ := f
  unfold fcells
  dsimp only
  by_cases h1 : tag < 1
  · have Hf := Lib.hid (fault_tag (f := ⟨tag, text, num, bytes⟩) (last := last) (.inl h1))
    go_enter Tryz.func155, Tryz.ntmps155
    go_wp2_with fail
    go_ret
    exact ⟨by rw [Hf.out]; rfl, (by repeat (first | with_reducible exact Below.refl _ _ | with_reducible assumption | with_reducible refine ExtD ?_ | with_reducible refine ExtDN ?_ | with_reducible refine ExtA ?_ | (with_reducible refine ExtR ?_ ?_; (first | omega | (dsimp only; omega) | (simp; done) | (simp; omega))) | (with_reducible refine ExtS ?_ ?_; (first | omega | (dsimp only; omega) | (simp; done) | (simp; omega))) | with_reducible refine Ext.tr ?_ (by with_reducible assumption)))⟩
  by_cases h2 : 31 < tag
  · have Hf := Lib.hid (fault_tag (f := ⟨tag, text, num, bytes⟩) (last := last) (.inr h2))
    go_enter Tryz.func155, Tryz.ntmps155
    go_wp2_with fail
    go_ret
    exact ⟨by rw [Hf.out]; rfl, (by repeat (first | with_reducible exact Below.refl _ _ | with_reducible assumption | with_reducible refine ExtD ?_ | with_reducible refine ExtDN ?_ | with_reducible refine ExtA ?_ | (with_reducible refine ExtR ?_ ?_; (first | omega | (dsimp only; omega) | (simp; done) | (simp; omega))) | (with_reducible refine ExtS ?_ ?_; (first | omega | (dsimp only; omega) | (simp; done) | (simp; omega))) | with_reducible refine Ext.tr ?_ (by with_reducible assumption)))⟩
  by_cases h3 : tag ≤ last
  · have Hf := Lib.hid (fault_order (f := ⟨tag, text, num, bytes⟩) (last := last) (by dsimp only; omega) h3)
    go_enter Tryz.func155, Tryz.ntmps155
    go_wp2_with fail
    go_ret
    exact ⟨by rw [Hf.out]; rfl, (by repeat (first | with_reducible exact Below.refl _ _ | with_reducible assumption | with_reducible refine ExtD ?_ | with_reducible refine ExtDN ?_ | with_reducible refine ExtA ?_ | (with_reducible refine ExtR ?_ ?_; (first | omega | (dsimp only; omega) | (simp; done) | (simp; omega))) | (with_reducible refine ExtS ?_ ?_; (first | omega | (dsimp only; omega) | (simp; done) | (simp; omega))) | with_reducible refine Ext.tr ?_ (by with_reducible assumption)))⟩
  cases text with
  | true =>
    have Hf := Lib.hid (fault_text (f := ⟨tag, true, num, bytes⟩) (last := last) (by dsimp only; omega) h3 rfl)
    have H4 : Hid (fault ⟨tag, true, num, bytes⟩ last = if bytes.length = 0 then 22 else if 200 < bytes.length then 23 else 0) := Hf
    clear Hf
    generalize bytes.length = n at *
    by_cases h4 : n = 0
    · have h40 := Lib.hid h4
      subst h4
      go_enter Tryz.func155, Tryz.ntmps155
      go_wp2_with fail
      go_ret
      exact ⟨by rw [H4.out, if_pos h40.out]; rfl, (by repeat (first | with_reducible exact Below.refl _ _ | with_reducible assumption | with_reducible refine ExtD ?_ | with_reducible refine ExtDN ?_ | with_reducible refine ExtA ?_ | (with_reducible refine ExtR ?_ ?_; (first | omega | (dsimp only; omega) | (simp; done) | (simp; omega))) | (with_reducible refine ExtS ?_ ?_; (first | omega | (dsimp only; omega) | (simp; done) | (simp; omega))) | with_reducible refine Ext.tr ?_ (by with_reducible assumption)))⟩
    · have t4 : ((n : Int) == 0) = false := by simp; omega
      have h40 := Lib.hid h4
      clear h4
      by_cases h5 : 200 < n
      · have h50 := Lib.hid h5
        go_enter Tryz.func155, Tryz.ntmps155
        go_wp2_with fail
        go_ret
        exact ⟨by rw [H4.out, if_neg h40.out, if_pos h50.out]; rfl, (by repeat (first | with_reducible exact Below.refl _ _ | with_reducible assumption | with_reducible refine ExtD ?_ | with_reducible refine ExtDN ?_ | with_reducible refine ExtA ?_ | (with_reducible refine ExtR ?_ ?_; (first | omega | (dsimp only; omega) | (simp; done) | (simp; omega))) | (with_reducible refine ExtS ?_ ?_; (first | omega | (dsimp only; omega) | (simp; done) | (simp; omega))) | with_reducible refine Ext.tr ?_ (by with_reducible assumption)))⟩
      · have h50 := Lib.hid h5
        have t5 : decide ((200 : Int) < (n : Int)) = false := by simp; omega
        clear h5
        go_enter Tryz.func155, Tryz.ntmps155
        go_wp2_with fail
        go_ret
        exact ⟨by rw [H4.out, if_neg h40.out, if_neg h50.out]; rfl, (by repeat (first | with_reducible exact Below.refl _ _ | with_reducible assumption | with_reducible refine ExtD ?_ | with_reducible refine ExtDN ?_ | with_reducible refine ExtA ?_ | (with_reducible refine ExtR ?_ ?_; (first | omega | (dsimp only; omega) | (simp; done) | (simp; omega))) | (with_reducible refine ExtS ?_ ?_; (first | omega | (dsimp only; omega) | (simp; done) | (simp; omega))) | with_reducible refine Ext.tr ?_ (by with_reducible assumption)))⟩
  | false =>
    have Hf := Lib.hid (fault_num (f := ⟨tag, false, num, bytes⟩) (last := last) (by dsimp only; omega) h3 rfl)
    have H4 : Hid (fault ⟨tag, false, num, bytes⟩ last = if num = 0 then 22 else 0) := Hf
    clear Hf
    by_cases h4 : num = 0
    · have h40 := Lib.hid h4
      subst h4
      go_enter Tryz.func155, Tryz.ntmps155
      go_wp2_with fail
      go_ret
      exact ⟨by rw [H4.out, if_pos h40.out]; rfl, (by repeat (first | with_reducible exact Below.refl _ _ | with_reducible assumption | with_reducible refine ExtD ?_ | with_reducible refine ExtDN ?_ | with_reducible refine ExtA ?_ | (with_reducible refine ExtR ?_ ?_; (first | omega | (dsimp only; omega) | (simp; done) | (simp; omega))) | (with_reducible refine ExtS ?_ ?_; (first | omega | (dsimp only; omega) | (simp; done) | (simp; omega))) | with_reducible refine Ext.tr ?_ (by with_reducible assumption)))⟩
    · have t4 : ((num : Int) == 0) = false := by simp; omega
      have h40 := Lib.hid h4
      clear h4
      go_enter Tryz.func155, Tryz.ntmps155
      go_wp2_with fail
      go_ret
      exact ⟨by rw [H4.out, if_neg h40.out]; rfl, (by repeat (first | with_reducible exact Below.refl _ _ | with_reducible assumption | with_reducible refine ExtD ?_ | with_reducible refine ExtDN ?_ | with_reducible refine ExtA ?_ | (with_reducible refine ExtR ?_ ?_; (first | omega | (dsimp only; omega) | (simp; done) | (simp; omega))) | (with_reducible refine ExtS ?_ ?_; (first | omega | (dsimp only; omega) | (simp; done) | (simp; omega))) | with_reducible refine Ext.tr ?_ (by with_reducible assumption)))⟩
end Go.Proofs.YtjajbbgebblalaaGreatDoor

namespace Go.Proofs.YtjajbbgebblalaaGreatDoor
open Go.RowKit
set_option linter.unusedVariables false
set_option linter.unusedSimpArgs false
theorem one_num (tag : Int) (num : Nat) (bytes : List UInt8) : one ⟨tag, false, num, bytes⟩ = venc (tag.toNat * 2) ++ venc num := rfl
theorem one_text (tag : Int) (num : Nat) (bytes : List UInt8) : one ⟨tag, true, num, bytes⟩ = venc (tag.toNat * 2 + 1) ++ (venc bytes.length ++ bytes) := rfl
set_option maxRecDepth 100000 in
set_option maxHeartbeats 2000000 in
theorem put_any (W w : World) (f : Fld) (A : Option Addr) (c : Nat) (A0 : Option Addr) (n0 c0 : Nat) (l : List UInt8) (hx : Ext W w)
    (hown : w.ownsRow W.heap.size 5 1 (.slice A0 n0 c0) n0 (u8s l)) (hr : Rd W A f.bytes.length (u8s f.bytes)) (h1 : 1 ≤ f.tag) (h2 : f.tag ≤ 31) (hn : f.num < 18446744073709551616) (hb : f.bytes.length ≤ 200 ∨ f.text = false) (hl : l.length ≤ 100000) :
    Calls Tryz.prog 217 #[.slice A0 n0 c0, .agg (fcells f A c)] w (NewB W (l ++ one f)) := by
  obtain ⟨tag, text, num, bytes⟩ := f
  unfold fcells
  dsimp only at *
  obtain ⟨T, rfl⟩ : ∃ T : Nat, tag = (T : Int) := ⟨tag.toNat, by omega⟩
  have Hown := Lib.hid hown
  have Hn : Hid (num ≤ 18446744073709551615) := Lib.hid (by omega)
  clear hown hn
  cases text with
  | false =>
    have Hone := Lib.hid (one_num (T : Int) num bytes)
    clear hr hb
    have k1 : ∀ w, Calls Tryz.prog 81 #[.int .u64 ((T : Int) * 2)] w (NewB w (venc (T * 2))) := fun w => venc_any (T * 2) w (by omega)
    have k2 : ∀ w, Calls Tryz.prog 81 #[.int .u64 (num : Nat)] w (NewB w (venc num)) := fun w => venc_any num w Hn.out
    have K1 := Lib.hid k1
    have K2 := Lib.hid k2
    have L1 := Lib.hid (venc_len10 (T * 2) (by omega))
    have L2 := Lib.hid (venc_len10 num (by have := Hn.out; omega))
    clear k1 k2
    go_enter Tryz.func217, Tryz.ntmps217
    go_wp2_with (first
      | (go_at_call 81; (with_reducible refine (K1.out _).mono ?_); rintro e w1 ⟨A1, c1, rfl, hx1, hown1⟩; have b1 : Blk w1 w.heap.size 210 _ := hx1.blk (BlkN rfl); have hw1 : Ext w w1 := (by repeat (first | with_reducible exact Below.refl _ _ | with_reducible assumption | with_reducible refine ExtD ?_ | with_reducible refine ExtDN ?_ | with_reducible refine ExtA ?_ | (with_reducible refine ExtR ?_ ?_; (first | omega | (dsimp only; omega) | (simp; done) | (simp; omega))) | (with_reducible refine ExtS ?_ ?_; (first | omega | (dsimp only; omega) | (simp; done) | (simp; omega))) | with_reducible refine Ext.tr ?_ (by with_reducible assumption))); have hW1 : Ext W w1 := hx.tr hw1)
      | (at_builtin; refine wpB_append rfl (.tmp 13) (.tmp 15) rfl W rfl (own_ext hw1 Hown.out) hW1 rfl (rd_own hown1) (by have := L1.out; omega) ?_; intro A2 n2 c2 w2 hx2 hn2 hown2 hk2 hg2; have b2 := hk2 _ 210 _ (by decide) b1; have e2 : w2.cell? ⟨w.heap.size, 2, none⟩ = some (.int .u64 (num : Nat)) := b2.cell 2; clear hk2 hg2)
      | (go_at_call 81; (with_reducible refine (K2.out _).mono ?_); rintro e w3 ⟨A3, c3, rfl, hx3, hown3⟩; have hW3 : Ext W w3 := hx2.tr hx3)
      | (at_builtin; refine wpB_append rfl (.tmp 17) (.tmp 20) rfl W rfl (own_ext hx3 hown2) hW3 rfl (rd_own hown3) (by have := L1.out; have := L2.out; simp; omega) ?_; intro A4 n4 c4 w4 hx4 hn4 hown4 hk4 hg4))
    go_ret
    rw [hn4.out] at hown4 ⊢
    rw [Hone.out, Int.toNat_natCast, ← List.append_assoc]
    exact ⟨A4, c4, rfl, hx4, hown4⟩
  | true =>
    have Hone := Lib.hid (one_text (T : Int) num bytes)
    obtain hb : bytes.length ≤ 200 := by rcases hb with h | h; exact h; cases h
    have k1 : ∀ w, Calls Tryz.prog 81 #[.int .u64 ((T : Int) * 2 + 1)] w (NewB w (venc (T * 2 + 1))) := fun w => venc_any (T * 2 + 1) w (by omega)
    have k2 : ∀ w, Calls Tryz.prog 81 #[.int .u64 (bytes.length : Nat)] w (NewB w (venc bytes.length)) := fun w => venc_any bytes.length w (by omega)
    have K1 := Lib.hid k1
    have K2 := Lib.hid k2
    have L1 := Lib.hid (venc_len10 (T * 2 + 1) (by omega))
    have L2 := Lib.hid (venc_len10 bytes.length (by omega))
    have Hr := Lib.hid hr
    clear k1 k2 hr
    go_enter Tryz.func217, Tryz.ntmps217
    go_wp2_with (first
      | (go_at_call 81; (with_reducible refine (K1.out _).mono ?_); rintro e w1 ⟨A1, c1, rfl, hx1, hown1⟩; have b1 : Blk w1 w.heap.size 210 _ := hx1.blk (BlkN rfl); have hw1 : Ext w w1 := (by repeat (first | with_reducible exact Below.refl _ _ | with_reducible assumption | with_reducible refine ExtD ?_ | with_reducible refine ExtDN ?_ | with_reducible refine ExtA ?_ | (with_reducible refine ExtR ?_ ?_; (first | omega | (dsimp only; omega) | (simp; done) | (simp; omega))) | (with_reducible refine ExtS ?_ ?_; (first | omega | (dsimp only; omega) | (simp; done) | (simp; omega))) | with_reducible refine Ext.tr ?_ (by with_reducible assumption))); have hW1 : Ext W w1 := hx.tr hw1)
      | (at_builtin; refine wpB_append rfl (.tmp 22) (.tmp 25) rfl W rfl (own_ext hw1 Hown.out) hW1 rfl (rd_own hown1) (by have := L1.out; omega) ?_; intro A2 n2 c2 w2 hx2 hn2 hown2 hk2 hg2; have b2 := hk2 _ 210 _ (by decide) b1; have e2 : w2.cell? ⟨w.heap.size, 3, none⟩ = some (.slice A bytes.length c) := b2.cell 3; clear hk2 hg2)
      | (go_at_call 81; (with_reducible refine (K2.out _).mono ?_); rintro e w3 ⟨A3, c3, rfl, hx3, hown3⟩; have hW3 : Ext W w3 := hx2.tr hx3; have b3 := hx3.blk b2)
      | (at_builtin; refine wpB_append rfl (.tmp 27) (.tmp 32) rfl W rfl (own_ext hx3 hown2) hW3 rfl (rd_own hown3) (by have := L1.out; have := L2.out; simp; omega) ?_; intro A4 n4 c4 w4 hx4 hn4 hown4 hk4 hg4; have b4 := hk4 _ 210 _ (by decide) b3; have e4 : w4.cell? ⟨w.heap.size, 3, none⟩ = some (.slice A bytes.length c) := b4.cell 3; clear hk4 hg4)
      | (at_builtin; refine wpB_append rfl (.tmp 34) (.tmp 36) rfl W rfl hown4 hx4 rfl (Hr.out.ext hx4) (by have := L1.out; have := L2.out; simp; omega) ?_; intro A5 n5 c5 w5 hx5 hn5 hown5 hk5 hg5))
    go_ret
    rw [hn5.out] at hown5 ⊢
    rw [Hone.out, Int.toNat_natCast, ← List.append_assoc, ← List.append_assoc]
    exact ⟨A5, c5, rfl, hx5, hown5⟩
set_option maxRecDepth 100000 in
set_option maxHeartbeats 2000000 in
theorem one_any (w : World) (f : Fld) (A : Option Addr) (c : Nat) (hr : Rd w A f.bytes.length (u8s f.bytes)) (h1 : 1 ≤ f.tag) (h2 : f.tag ≤ 31) (hn : f.num < 18446744073709551616) (hb : f.bytes.length ≤ 200 ∨ f.text = false) :
    Calls Tryz.prog 156 #[.agg (fcells f A c)] w (NewB w (one f)) := by
  obtain ⟨tag, text, num, bytes⟩ := f
  unfold fcells
  dsimp only at *
  obtain ⟨T, rfl⟩ : ∃ T : Nat, tag = (T : Int) := ⟨tag.toNat, by omega⟩
  have Hn : Hid (num ≤ 18446744073709551615) := Lib.hid (by omega)
  clear hn
  cases text with
  | false =>
    have Hone := Lib.hid (one_num (T : Int) num bytes)
    clear hr hb
    have k1 : ∀ w, Calls Tryz.prog 76 #[.int .u64 (2 * (T : Int))] w (NewB w (venc (T * 2))) := fun w => by have := rvenc_any (T * 2) w (by omega); rw [Int.natCast_mul, Int.mul_comm] at this; exact this
    have k2 : ∀ w, Calls Tryz.prog 76 #[.int .u64 (num : Nat)] w (NewB w (venc num)) := fun w => rvenc_any num w Hn.out
    have K1 := Lib.hid k1
    have K2 := Lib.hid k2
    have L1 := Lib.hid (venc_len10 (T * 2) (by omega))
    have L2 := Lib.hid (venc_len10 num (by have := Hn.out; omega))
    clear k1 k2
    go_enter Tryz.func156, Tryz.ntmps156
    go_wp2_with fail
    have W1 : IntKind.i64.wrap (2 * (T : Int)) = 2 * (T : Int) := by rw [IntKind.wrap_i64]; omega
    have W2 : IntKind.u64.wrap (2 * (T : Int)) = 2 * (T : Int) := by rw [IntKind.wrap_u64]; omega
    have HS : ∀ w', Ext (w.alloc (.cells #[.int .i64 T, .bool false, .int .u64 num, .slice A bytes.length c] 210)) w' → Ext (w.alloc (.cells #[.int .i64 T, .bool false, .int .u64 num, .slice A bytes.length c] 210)) w' ∧ w'.cell? ⟨w.heap.size, 0, none⟩ = some (.int .i64 T) ∧ w'.cell? ⟨w.heap.size, 2, none⟩ = some (.int .u64 num) :=
      fun w' h => ⟨h, (h.blk (BlkN rfl)).cell 0, (h.blk (BlkN rfl)).cell 2⟩
    have hS := Lib.hid HS
    clear HS
    go_region_held3 (fun w' => Ext (w.alloc (.cells #[.int .i64 T, .bool false, .int .u64 num, .slice A bytes.length c] 210)) w' ∧ w'.cell? ⟨w.heap.size, 0, none⟩ = some (.int .i64 T) ∧ w'.cell? ⟨w.heap.size, 2, none⟩ = some (.int .u64 num))
      (first
        | exact hS.out _ (ExtD (Ext.rfl' _))
        | exact hS.out _ hx4
        | (go_split_ands; refine hS.out _ (Ext.tr ?_ hx3); assumption)
        | (go_split_ands; refine hS.out _ (Ext.tr ?_ hx1); assumption)
        | (go_split_ands; refine hS.out _ (ExtD ?_); assumption))
      (first
        | (go_at_call 76; (with_reducible refine (K1.out _).mono ?_); rintro e w1 ⟨A1, c1, rfl, hx1, hown1⟩)
        | (go_at_call 76; (with_reducible refine (K2.out _).mono ?_); rintro e w3 ⟨A3, c3, rfl, hx3, hown3⟩)
        | (refine stepB_append (by rfl) _ (by rfl) (.tmp 26) (.tmp 29) (by rfl) (w.alloc (.cells #[.int .i64 T, .bool false, .int .u64 num, .slice A bytes.length c] 210)) (by rfl) (own_base (own_ext hx3 hown1) (by simp)) (by repeat (first | with_reducible exact Below.refl _ _ | with_reducible assumption | with_reducible refine ExtD ?_ | with_reducible refine ExtDN ?_ | with_reducible refine ExtA ?_ | (with_reducible refine ExtR ?_ ?_; (first | omega | (dsimp only; omega) | (simp; done) | (simp; omega))) | (with_reducible refine ExtS ?_ ?_; (first | omega | (dsimp only; omega) | (simp; done) | (simp; omega))) | with_reducible refine Ext.tr ?_ (by with_reducible assumption))) (by rfl) (rd_own hown3) (by have := L1.out; have := L2.out; omega) ?_; intro A4 n4 c4 w4 hx4 hn4 hown4 hk4))
    go_wp2_with fail
    go_ret
    rw [hn4.out] at hown4 ⊢
    rw [Hone.out, Int.toNat_natCast]
    exact ⟨A4, c4, rfl, Ext.tr (ExtA (Ext.rfl' w)) hx4, own_base hown4 (by simp)⟩
  | true =>
    have Hone := Lib.hid (one_text (T : Int) num bytes)
    obtain hb : bytes.length ≤ 200 := by rcases hb with h | h; exact h; cases h
    have k1 : ∀ w, Calls Tryz.prog 76 #[.int .u64 (2 * (T : Int) + 1)] w (NewB w (venc (T * 2 + 1))) := fun w => by have := rvenc_any (T * 2 + 1) w (by omega); rw [Int.natCast_add, Int.natCast_mul, Int.mul_comm] at this; exact this
    have k2 : ∀ w, Calls Tryz.prog 76 #[.int .u64 (bytes.length : Nat)] w (NewB w (venc bytes.length)) := fun w => rvenc_any bytes.length w (by omega)
    have K1 := Lib.hid k1
    have K2 := Lib.hid k2
    have L1 := Lib.hid (venc_len10 (T * 2 + 1) (by omega))
    have L2 := Lib.hid (venc_len10 bytes.length (by omega))
    have Hr := Lib.hid hr
    clear k1 k2 hr
    go_enter Tryz.func156, Tryz.ntmps156
    go_wp2_with fail
    have W1 : IntKind.i64.wrap (2 * (T : Int)) = 2 * (T : Int) := by rw [IntKind.wrap_i64]; omega
    have W2 : IntKind.i64.wrap (2 * (T : Int) + 1) = 2 * (T : Int) + 1 := by rw [IntKind.wrap_i64]; omega
    have W3 : IntKind.u64.wrap (2 * (T : Int) + 1) = 2 * (T : Int) + 1 := by rw [IntKind.wrap_u64]; omega
    have W4 : IntKind.u64.wrap (bytes.length : Int) = (bytes.length : Int) := by rw [IntKind.wrap_u64]; omega
    have HS : ∀ w', Ext (w.alloc (.cells #[.int .i64 T, .bool true, .int .u64 num, .slice A bytes.length c] 210)) w' → Ext (w.alloc (.cells #[.int .i64 T, .bool true, .int .u64 num, .slice A bytes.length c] 210)) w' ∧ w'.cell? ⟨w.heap.size, 0, none⟩ = some (.int .i64 T) ∧ w'.cell? ⟨w.heap.size, 3, none⟩ = some (.slice A bytes.length c) :=
      fun w' h => ⟨h, (h.blk (BlkN rfl)).cell 0, (h.blk (BlkN rfl)).cell 3⟩
    have hS := Lib.hid HS
    clear HS
    go_region_held3 (fun w' => Ext (w.alloc (.cells #[.int .i64 T, .bool true, .int .u64 num, .slice A bytes.length c] 210)) w' ∧ w'.cell? ⟨w.heap.size, 0, none⟩ = some (.int .i64 T) ∧ w'.cell? ⟨w.heap.size, 3, none⟩ = some (.slice A bytes.length c))
      (first
        | exact hS.out _ (ExtD (Ext.rfl' _))
        | exact hS.out _ hx4
        | (go_split_ands; refine hS.out _ (Ext.tr ?_ hx3); assumption)
        | (go_split_ands; refine hS.out _ (Ext.tr ?_ hx1); assumption)
        | (go_split_ands; refine hS.out _ (ExtD ?_); assumption))
      (first
        | (go_at_call 76; (with_reducible refine (K1.out _).mono ?_); rintro e w1 ⟨A1, c1, rfl, hx1, hown1⟩)
        | (go_at_call 76; (with_reducible refine (K2.out _).mono ?_); rintro e w3 ⟨A3, c3, rfl, hx3, hown3⟩)
        | (refine stepB_append (by rfl) _ (by rfl) (.tmp 11) (.tmp 16) (by rfl) (w.alloc (.cells #[.int .i64 T, .bool true, .int .u64 num, .slice A bytes.length c] 210)) (by rfl) (own_base (own_ext hx3 hown1) (by simp)) (by repeat (first | with_reducible exact Below.refl _ _ | with_reducible assumption | with_reducible refine ExtD ?_ | with_reducible refine ExtDN ?_ | with_reducible refine ExtA ?_ | (with_reducible refine ExtR ?_ ?_; (first | omega | (dsimp only; omega) | (simp; done) | (simp; omega))) | (with_reducible refine ExtS ?_ ?_; (first | omega | (dsimp only; omega) | (simp; done) | (simp; omega))) | with_reducible refine Ext.tr ?_ (by with_reducible assumption))) (by rfl) (rd_own hown3) (by have := L1.out; have := L2.out; omega) ?_; intro A4 n4 c4 w4 hx4 hn4 hown4 hk4))
    have b4 := (hx4.blk (BlkN (t := 210) rfl)).cell 3
    have e4 : w4.cell? ⟨w.heap.size, 3, none⟩ = some (.slice A bytes.length c) := b4
    have H4 := Lib.hid (Ext.tr (ExtA (Ext.rfl' w)) hx4)
    clear b4 W1 W2 W3 W4
    go_wp2_with (at_builtin; go_must (refine wpB_append rfl (.tmp 18) (.tmp 20) rfl w rfl (own_base hown4 (by simp)) H4.out rfl (Hr.out.ext H4.out) (by have := L1.out; have := L2.out; simp; omega) ?_); intro A5 n5 c5 w5 hx5 hn5 hown5 hk5 hg5)
    go_ret
    rw [hn5.out] at hown5 ⊢
    rw [Hone.out, Int.toNat_natCast, ← List.append_assoc]
    exact ⟨A5, c5, rfl, hx5, hown5⟩
end Go.Proofs.YtjajbbgebblalaaGreatDoor
