/-
  Fields in memory, and the walks of tlv.check and of the reference's Fault.
-/
import Derived.Test.YtipdilmlodakoaaGreatBytesX
import Derived.Test.YtipdilmlodakoaaGreatTlvP
namespace Go.Proofs.YtipdilmlodakoaaGreat
open Go.RowKit
set_option linter.unusedVariables false
set_option linter.unusedSimpArgs false
def fcells (f : Fld) (A : Option Addr) (c : Nat) : Array Value := #[.int .i64 f.tag, .bool f.text, .int .u64 (f.num : Nat), .slice A f.bytes.length c]
theorem fcells_size (f : Fld) (A : Option Addr) (c : Nat) : (fcells f A c).size = 4 := rfl
theorem fcells_one (f : Fld) (A : Option Addr) (c : Nat) : ∀ v ∈ (fcells f A c).toList, v.oneCell' = true := by
  intro v hv; simp [fcells] at hv; rcases hv with rfl | rfl | rfl | rfl <;> rfl
theorem fld_wide : Wide Tryz.prog 70 4 := ⟨⟨_, Tryz.underlying70, rfl⟩, by kernel_rfl⟩
theorem ret_i64 {a b : Int} (h : a = b) : Ending.returned (.int .i64 a) = .returned (.int .i64 b) := by rw [h]
def FaultPost (w : World) (f : Fld) (last : Int) (e : Ending) (w' : World) : Prop := e = .returned (.int .i64 (fault f last : Nat)) ∧ Ext w w'
theorem fault_tag {f : Fld} {last : Int} (h : f.tag < 1 ∨ 31 < f.tag) : fault f last = 20 := by unfold fault; rw [if_pos h]
theorem fault_order {f : Fld} {last : Int} (h : ¬ (f.tag < 1 ∨ 31 < f.tag)) (h2 : f.tag ≤ last) : fault f last = 21 := by unfold fault; rw [if_neg h, if_pos h2]
theorem fault_text {f : Fld} {last : Int} (h : ¬ (f.tag < 1 ∨ 31 < f.tag)) (h2 : ¬ f.tag ≤ last) (h3 : f.text = true) : fault f last = if f.bytes.length = 0 then 22 else if 200 < f.bytes.length then 23 else 0 := by
  unfold fault; rw [if_neg h, if_neg h2, if_pos h3]
theorem fault_num {f : Fld} {last : Int} (h : ¬ (f.tag < 1 ∨ 31 < f.tag)) (h2 : ¬ f.tag ≤ last) (h3 : f.text = false) : fault f last = if f.num = 0 then 22 else 0 := by
  unfold fault; rw [if_neg h, if_neg h2, if_neg (by simp [h3])]
set_option maxHeartbeats 1000000 in
theorem check_any (f : Fld) (A : Option Addr) (c : Nat) (last : Int) (w : World) :
    Calls Tryz.prog 59 #[.agg (fcells f A c), .int .i64 last] w (FaultPost w f last) := by
  obtain ⟨tag, text, num, bytes⟩ := f
  unfold fcells
  dsimp only
  by_cases h1 : tag < 1
  · have Hf := Lib.hid (fault_tag (f := ⟨tag, text, num, bytes⟩) (last := last) (.inl h1))
    go_enter Tryz.func59, Tryz.ntmps59
    go_wp2_with fail
    go_ret
    exact ⟨by rw [Hf.out]; rfl, (by repeat (first | with_reducible exact Below.refl _ _ | with_reducible assumption | with_reducible refine ExtD ?_ | with_reducible refine ExtDN ?_ | with_reducible refine ExtA ?_ | (with_reducible refine ExtR ?_ ?_; (first | omega | (dsimp only; omega) | (simp; done) | (simp; omega))) | (with_reducible refine ExtS ?_ ?_; (first | omega | (dsimp only; omega) | (simp; done) | (simp; omega))) | with_reducible refine Ext.tr ?_ (by with_reducible assumption)))⟩
  by_cases h2 : 31 < tag
  · have Hf := Lib.hid (fault_tag (f := ⟨tag, text, num, bytes⟩) (last := last) (.inr h2))
    go_enter Tryz.func59, Tryz.ntmps59
    go_wp2_with fail
    go_ret
    exact ⟨by rw [Hf.out]; rfl, (by repeat (first | with_reducible exact Below.refl _ _ | with_reducible assumption | with_reducible refine ExtD ?_ | with_reducible refine ExtDN ?_ | with_reducible refine ExtA ?_ | (with_reducible refine ExtR ?_ ?_; (first | omega | (dsimp only; omega) | (simp; done) | (simp; omega))) | (with_reducible refine ExtS ?_ ?_; (first | omega | (dsimp only; omega) | (simp; done) | (simp; omega))) | with_reducible refine Ext.tr ?_ (by with_reducible assumption)))⟩
  by_cases h3 : tag ≤ last
  · have Hf := Lib.hid (fault_order (f := ⟨tag, text, num, bytes⟩) (last := last) (by dsimp only; omega) h3)
    go_enter Tryz.func59, Tryz.ntmps59
    go_wp2_with fail
    go_ret
    exact ⟨by rw [Hf.out]; rfl, (by repeat (first | with_reducible exact Below.refl _ _ | with_reducible assumption | with_reducible refine ExtD ?_ | with_reducible refine ExtDN ?_ | with_reducible refine ExtA ?_ | (with_reducible refine ExtR ?_ ?_; (first | omega | (dsimp only; omega) | (simp; done) | (simp; omega))) | (with_reducible refine ExtS ?_ ?_; (first | omega | (dsimp only; omega) | (simp; done) | (simp; omega))) | with_reducible refine Ext.tr ?_ (by with_reducible assumption)))⟩
  cases text with
  | true =>
    have Hf := Lib.hid (fault_text (f := ⟨tag, true, num, bytes⟩) (last := last) (by dsimp only; omega) h3 rfl)
    have H4 : Hid (fault ⟨tag, true, num, bytes⟩ last = if bytes.length = 0 then 22 else if 200 < bytes.length then 23 else 0) := Hf
    clear Hf
    generalize bytes.length = n at *
    by_cases h4 : n = 0
    · have h40 := Lib.hid h4
      subst h4
      go_enter Tryz.func59, Tryz.ntmps59
      go_wp2_with fail
      go_ret
      exact ⟨by rw [H4.out, if_pos h40.out]; rfl, (by repeat (first | with_reducible exact Below.refl _ _ | with_reducible assumption | with_reducible refine ExtD ?_ | with_reducible refine ExtDN ?_ | with_reducible refine ExtA ?_ | (with_reducible refine ExtR ?_ ?_; (first | omega | (dsimp only; omega) | (simp; done) | (simp; omega))) | (with_reducible refine ExtS ?_ ?_; (first | omega | (dsimp only; omega) | (simp; done) | (simp; omega))) | with_reducible refine Ext.tr ?_ (by with_reducible assumption)))⟩
    · have t4 : ((n : Int) == 0) = false := by simp; omega
      have h40 := Lib.hid h4
      clear h4
      by_cases h5 : 200 < n
      · have h50 := Lib.hid h5
        go_enter Tryz.func59, Tryz.ntmps59
        go_wp2_with fail
        go_ret
        exact ⟨by rw [H4.out, if_neg h40.out, if_pos h50.out]; rfl, (by repeat (first | with_reducible exact Below.refl _ _ | with_reducible assumption | with_reducible refine ExtD ?_ | with_reducible refine ExtDN ?_ | with_reducible refine ExtA ?_ | (with_reducible refine ExtR ?_ ?_; (first | omega | (dsimp only; omega) | (simp; done) | (simp; omega))) | (with_reducible refine ExtS ?_ ?_; (first | omega | (dsimp only; omega) | (simp; done) | (simp; omega))) | with_reducible refine Ext.tr ?_ (by with_reducible assumption)))⟩
      · have h50 := Lib.hid h5
        have t5 : decide ((200 : Int) < (n : Int)) = false := by simp; omega
        clear h5
        go_enter Tryz.func59, Tryz.ntmps59
        go_wp2_with fail
        go_ret
        exact ⟨by rw [H4.out, if_neg h40.out, if_neg h50.out]; rfl, (by repeat (first | with_reducible exact Below.refl _ _ | with_reducible assumption | with_reducible refine ExtD ?_ | with_reducible refine ExtDN ?_ | with_reducible refine ExtA ?_ | (with_reducible refine ExtR ?_ ?_; (first | omega | (dsimp only; omega) | (simp; done) | (simp; omega))) | (with_reducible refine ExtS ?_ ?_; (first | omega | (dsimp only; omega) | (simp; done) | (simp; omega))) | with_reducible refine Ext.tr ?_ (by with_reducible assumption)))⟩
  | false =>
    have Hf := Lib.hid (fault_num (f := ⟨tag, false, num, bytes⟩) (last := last) (by dsimp only; omega) h3 rfl)
    have H4 : Hid (fault ⟨tag, false, num, bytes⟩ last = if num = 0 then 22 else 0) := Hf
    clear Hf
    by_cases h4 : num = 0
    · have h40 := Lib.hid h4
      subst h4
      go_enter Tryz.func59, Tryz.ntmps59
      go_wp2_with fail
      go_ret
      exact ⟨by rw [H4.out, if_pos h40.out]; rfl, (by repeat (first | with_reducible exact Below.refl _ _ | with_reducible assumption | with_reducible refine ExtD ?_ | with_reducible refine ExtDN ?_ | with_reducible refine ExtA ?_ | (with_reducible refine ExtR ?_ ?_; (first | omega | (dsimp only; omega) | (simp; done) | (simp; omega))) | (with_reducible refine ExtS ?_ ?_; (first | omega | (dsimp only; omega) | (simp; done) | (simp; omega))) | with_reducible refine Ext.tr ?_ (by with_reducible assumption)))⟩
    · have t4 : ((num : Int) == 0) = false := by simp; omega
      have h40 := Lib.hid h4
      clear h4
      go_enter Tryz.func59, Tryz.ntmps59
      go_wp2_with fail
      go_ret
      exact ⟨by rw [H4.out, if_neg h40.out]; rfl, (by repeat (first | with_reducible exact Below.refl _ _ | with_reducible assumption | with_reducible refine ExtD ?_ | with_reducible refine ExtDN ?_ | with_reducible refine ExtA ?_ | (with_reducible refine ExtR ?_ ?_; (first | omega | (dsimp only; omega) | (simp; done) | (simp; omega))) | (with_reducible refine ExtS ?_ ?_; (first | omega | (dsimp only; omega) | (simp; done) | (simp; omega))) | with_reducible refine Ext.tr ?_ (by with_reducible assumption)))⟩
set_option maxHeartbeats 1000000 in
theorem fault_any (f : Fld) (A : Option Addr) (c : Nat) (last : Int) (w : World) :
    Calls Tryz.prog 34 #[.agg (fcells f A c), .int .i64 last] w (FaultPost w f last) := by
  obtain ⟨tag, text, num, bytes⟩ := f
  unfold fcells
  dsimp only
  by_cases h1 : tag < 1
  · have Hf := Lib.hid (fault_tag (f := ⟨tag, text, num, bytes⟩) (last := last) (.inl h1))
    go_enter Tryz.func34, Tryz.ntmps34
    go_wp2_with fail
    go_ret
    exact ⟨by rw [Hf.out]; rfl, (by repeat (first | with_reducible exact Below.refl _ _ | with_reducible assumption | with_reducible refine ExtD ?_ | with_reducible refine ExtDN ?_ | with_reducible refine ExtA ?_ | (with_reducible refine ExtR ?_ ?_; (first | omega | (dsimp only; omega) | (simp; done) | (simp; omega))) | (with_reducible refine ExtS ?_ ?_; (first | omega | (dsimp only; omega) | (simp; done) | (simp; omega))) | with_reducible refine Ext.tr ?_ (by with_reducible assumption)))⟩
  by_cases h2 : 31 < tag
  · have Hf := Lib.hid (fault_tag (f := ⟨tag, text, num, bytes⟩) (last := last) (.inr h2))
    go_enter Tryz.func34, Tryz.ntmps34
    go_wp2_with fail
    go_ret
    exact ⟨by rw [Hf.out]; rfl, (by repeat (first | with_reducible exact Below.refl _ _ | with_reducible assumption | with_reducible refine ExtD ?_ | with_reducible refine ExtDN ?_ | with_reducible refine ExtA ?_ | (with_reducible refine ExtR ?_ ?_; (first | omega | (dsimp only; omega) | (simp; done) | (simp; omega))) | (with_reducible refine ExtS ?_ ?_; (first | omega | (dsimp only; omega) | (simp; done) | (simp; omega))) | with_reducible refine Ext.tr ?_ (by with_reducible assumption)))⟩
  by_cases h3 : tag ≤ last
  · have Hf := Lib.hid (fault_order (f := ⟨tag, text, num, bytes⟩) (last := last) (by dsimp only; omega) h3)
    go_enter Tryz.func34, Tryz.ntmps34
    go_wp2_with fail
    go_ret
    exact ⟨by rw [Hf.out]; rfl, (by repeat (first | with_reducible exact Below.refl _ _ | with_reducible assumption | with_reducible refine ExtD ?_ | with_reducible refine ExtDN ?_ | with_reducible refine ExtA ?_ | (with_reducible refine ExtR ?_ ?_; (first | omega | (dsimp only; omega) | (simp; done) | (simp; omega))) | (with_reducible refine ExtS ?_ ?_; (first | omega | (dsimp only; omega) | (simp; done) | (simp; omega))) | with_reducible refine Ext.tr ?_ (by with_reducible assumption)))⟩
  cases text with
  | true =>
    have Hf := Lib.hid (fault_text (f := ⟨tag, true, num, bytes⟩) (last := last) (by dsimp only; omega) h3 rfl)
    have H4 : Hid (fault ⟨tag, true, num, bytes⟩ last = if bytes.length = 0 then 22 else if 200 < bytes.length then 23 else 0) := Hf
    clear Hf
    generalize bytes.length = n at *
    by_cases h4 : n = 0
    · have h40 := Lib.hid h4
      subst h4
      go_enter Tryz.func34, Tryz.ntmps34
      go_wp2_with fail
      go_ret
      exact ⟨by rw [H4.out, if_pos h40.out]; rfl, (by repeat (first | with_reducible exact Below.refl _ _ | with_reducible assumption | with_reducible refine ExtD ?_ | with_reducible refine ExtDN ?_ | with_reducible refine ExtA ?_ | (with_reducible refine ExtR ?_ ?_; (first | omega | (dsimp only; omega) | (simp; done) | (simp; omega))) | (with_reducible refine ExtS ?_ ?_; (first | omega | (dsimp only; omega) | (simp; done) | (simp; omega))) | with_reducible refine Ext.tr ?_ (by with_reducible assumption)))⟩
    · have t4 : ((n : Int) == 0) = false := by simp; omega
      have h40 := Lib.hid h4
      clear h4
      by_cases h5 : 200 < n
      · have h50 := Lib.hid h5
        go_enter Tryz.func34, Tryz.ntmps34
        go_wp2_with fail
        go_ret
        exact ⟨by rw [H4.out, if_neg h40.out, if_pos h50.out]; rfl, (by repeat (first | with_reducible exact Below.refl _ _ | with_reducible assumption | with_reducible refine ExtD ?_ | with_reducible refine ExtDN ?_ | with_reducible refine ExtA ?_ | (with_reducible refine ExtR ?_ ?_; (first | omega | (dsimp only; omega) | (simp; done) | (simp; omega))) | (with_reducible refine ExtS ?_ ?_; (first | omega | (dsimp only; omega) | (simp; done) | (simp; omega))) | with_reducible refine Ext.tr ?_ (by with_reducible assumption)))⟩
      · have h50 := Lib.hid h5
        have t5 : decide ((200 : Int) < (n : Int)) = false := by simp; omega
        clear h5
        go_enter Tryz.func34, Tryz.ntmps34
        go_wp2_with fail
        go_ret
        exact ⟨by rw [H4.out, if_neg h40.out, if_neg h50.out]; rfl, (by repeat (first | with_reducible exact Below.refl _ _ | with_reducible assumption | with_reducible refine ExtD ?_ | with_reducible refine ExtDN ?_ | with_reducible refine ExtA ?_ | (with_reducible refine ExtR ?_ ?_; (first | omega | (dsimp only; omega) | (simp; done) | (simp; omega))) | (with_reducible refine ExtS ?_ ?_; (first | omega | (dsimp only; omega) | (simp; done) | (simp; omega))) | with_reducible refine Ext.tr ?_ (by with_reducible assumption)))⟩
  | false =>
    have Hf := Lib.hid (fault_num (f := ⟨tag, false, num, bytes⟩) (last := last) (by dsimp only; omega) h3 rfl)
    have H4 : Hid (fault ⟨tag, false, num, bytes⟩ last = if num = 0 then 22 else 0) := Hf
    clear Hf
    by_cases h4 : num = 0
    · have h40 := Lib.hid h4
      subst h4
      go_enter Tryz.func34, Tryz.ntmps34
      go_wp2_with fail
      go_ret
      exact ⟨by rw [H4.out, if_pos h40.out]; rfl, (by repeat (first | with_reducible exact Below.refl _ _ | with_reducible assumption | with_reducible refine ExtD ?_ | with_reducible refine ExtDN ?_ | with_reducible refine ExtA ?_ | (with_reducible refine ExtR ?_ ?_; (first | omega | (dsimp only; omega) | (simp; done) | (simp; omega))) | (with_reducible refine ExtS ?_ ?_; (first | omega | (dsimp only; omega) | (simp; done) | (simp; omega))) | with_reducible refine Ext.tr ?_ (by with_reducible assumption)))⟩
    · have t4 : ((num : Int) == 0) = false := by simp; omega
      have h40 := Lib.hid h4
      clear h4
      go_enter Tryz.func34, Tryz.ntmps34
      go_wp2_with fail
      go_ret
      exact ⟨by rw [H4.out, if_neg h40.out]; rfl, (by repeat (first | with_reducible exact Below.refl _ _ | with_reducible assumption | with_reducible refine ExtD ?_ | with_reducible refine ExtDN ?_ | with_reducible refine ExtA ?_ | (with_reducible refine ExtR ?_ ?_; (first | omega | (dsimp only; omega) | (simp; done) | (simp; omega))) | (with_reducible refine ExtS ?_ ?_; (first | omega | (dsimp only; omega) | (simp; done) | (simp; omega))) | with_reducible refine Ext.tr ?_ (by with_reducible assumption)))⟩
end Go.Proofs.YtipdilmlodakoaaGreat
