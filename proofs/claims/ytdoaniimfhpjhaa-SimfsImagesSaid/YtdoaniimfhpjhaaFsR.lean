/-
  Which names are right: both walks.
-/
import Derived.Test.YtdoaniimfhpjhaaBytesX
namespace Go.Proofs.Ytdoaniimfhpjhaa
open Go.RowKit
set_option linter.unusedVariables false
set_option linter.unusedSimpArgs false
def okCh (x : Nat) : Bool := (decide (97 ≤ x) && decide (x ≤ 122)) || (decide (48 ≤ x) && decide (x ≤ 57)) || decide (x = 45) || decide (x = 46)
def chAt (s : ByteArray) (k : Nat) : Nat := (s.data.toList.getD k 0).toNat
def rightB (s : ByteArray) : Bool := decide (1 ≤ s.size) && decide (s.size ≤ 24) && (List.range s.size).all fun k => okCh (chAt s k)
theorem chAt_lt (s : ByteArray) (k : Nat) : chAt s k < 256 := UInt8.toNat_lt _
theorem str_at (s : ByteArray) (k : Nat) (h : k < s.size) (w : World) : (Instr.index 9 (.string s) (.int .i64 (k : Nat))).run Try.prog w = .ok (.int .u8 (chAt s k : Nat)) w := by
  rw [run_index_string w 9 s .i64 _ Try.underlying9, dif_pos ⟨by omega, by omega⟩]
  have e : ((k : Nat) : Int).toNat = k := by omega
  simp only [e]
  unfold chAt
  have h' : k < s.data.toList.length := by simpa using h
  rw [List.getD, List.getElem?_eq_getElem h']
  rfl
theorem right_no (s : ByteArray) (k : Nat) (h : k < s.size) (hc : okCh (chAt s k) = false) : rightB s = false := by
  unfold rightB
  have : (List.range s.size).all (fun k => okCh (chAt s k)) = false := by
    rw [List.all_eq_false]
    exact ⟨k, List.mem_range.2 h, by simp [hc]⟩
  rw [this, Bool.and_false]
theorem right_yes (s : ByteArray) (h0 : 1 ≤ s.size) (h1 : s.size ≤ 24) (hc : ∀ k, k < s.size → okCh (chAt s k) = true) : rightB s = true := by
  unfold rightB
  have : (List.range s.size).all (fun k => okCh (chAt s k)) = true := by
    rw [List.all_eq_true]
    exact fun k hk => hc k (List.mem_range.1 hk)
  rw [this]
  simp; omega
def RigR (n : Nat) (s : ByteArray) (w : World) (i : Value) (wr : World) : Prop := ∃ k : Nat, k ≤ n ∧ i = .int .i64 k ∧ w = wr ∧ ∀ j, j < k → okCh (chAt s j) = true
theorem rig_next {s : ByteArray} {w : World} {k x : Nat} (hall : ∀ j, j < k → okCh (chAt s j) = true) (hx : x = chAt s k) (hlt : k < s.size) (hc : okCh x = true) : RigR s.size s w (.int .i64 ((k : Nat) + 1 : Int)) w :=
  ⟨k + 1, hlt, by simp, rfl, fun j hj => by
    by_cases hjk : j = k
    · subst hjk; rw [← hx]; exact hc
    · exact hall j (by omega)⟩
set_option maxRecDepth 100000 in
set_option maxHeartbeats 2000000 in
theorem right_any (s : ByteArray) (w : World) : Calls Try.prog 41 #[.string s] w fun e w' => e = .returned (.bool (rightB s)) ∧ Ext w w' := by
  by_cases h0 : s.size = 0
  · have hb : rightB s = false := by unfold rightB; simp [h0]
    rw [hb]
    have hs : s = ⟨#[]⟩ := by
      cases s with | mk d => congr 1; exact Array.eq_empty_of_size_eq_zero h0
    subst hs
    clear hb h0
    go_enter Try.func41, Try.ntmps41
    go_wp2_with fail
    go_ret
    exact ⟨rfl, (by repeat (first | with_reducible exact Below.refl _ _ | with_reducible assumption | with_reducible refine ExtD ?_ | with_reducible refine ExtDN ?_ | with_reducible refine ExtA ?_ | (with_reducible refine ExtR ?_ ?_; (first | omega | (dsimp only; omega) | (simp; done) | (simp; omega))) | (with_reducible refine ExtS ?_ ?_; (first | omega | (dsimp only; omega) | (simp; done) | (simp; omega))) | with_reducible refine Ext.tr ?_ (by with_reducible assumption)))⟩
  · have hne : s.toList.isEmpty = false := by
      rw [ByteArray.toList_eq]
      cases hl : s.data.toList with
      | nil => exact absurd (by have := congrArg List.length hl; simpa using this) h0
      | cons _ _ => rfl
    by_cases h1 : 24 < s.size
    · have hb : rightB s = false := by unfold rightB; simp; omega
      rw [hb]
      have d1 : decide ((24 : Int) < (s.size : Int)) = true := by simp; omega
      clear hb h0
      go_enter Try.func41, Try.ntmps41
      go_wp2_with fail
      go_ret
      exact ⟨rfl, (by repeat (first | with_reducible exact Below.refl _ _ | with_reducible assumption | with_reducible refine ExtD ?_ | with_reducible refine ExtDN ?_ | with_reducible refine ExtA ?_ | (with_reducible refine ExtR ?_ ?_; (first | omega | (dsimp only; omega) | (simp; done) | (simp; omega))) | (with_reducible refine ExtS ?_ ?_; (first | omega | (dsimp only; omega) | (simp; done) | (simp; omega))) | with_reducible refine Ext.tr ?_ (by with_reducible assumption)))⟩
    · have d1 : decide ((24 : Int) < (s.size : Int)) = false := by simp; omega
      have Hix := Lib.hid (str_at s)
      have H0 := Lib.hid h0
      have H1 := Lib.hid h1
      clear h0 h1
      go_enter Try.func41, Try.ntmps41
      go_wp2_with fail
      go_loopw [14] (fun c14 wr => RigR s.size s w c14 wr) (fun c14 _ => s.size - (intOf c14).toNat)
      case atStart => exact ⟨0, by omega, rfl, rfl, fun j h => by omega⟩
      case round =>
        obtain ⟨k, hk, rfl, rfl, hall⟩ := hrel
        have Hall := Lib.hid hall
        clear hall
        have h24 := H1.out
        by_cases hlt : k < s.size
        · have hix := Hix.out k hlt w
          obtain ⟨x, hx⟩ : ∃ x, x = chAt s k := ⟨_, rfl⟩
          rw [← hx] at hix
          have HX := Lib.hid hx
          have hx8 : x < 256 := by rw [hx]; exact chAt_lt s k
          clear hx
          go_wp2_with fail
          all_goals try simp only [bne_eq_false_iff_eq, bne_iff_ne, ne_eq, beq_iff_eq, beq_eq_false_iff_ne, Bool.not_eq_eq_eq_not, Bool.not_true, Bool.not_false, decide_eq_false_iff_not, decide_eq_true_eq] at *
          all_goals first
            | exact And.intro (rig_next Hall.out HX.out hlt (by simp [okCh] <;> omega)) (by simp [intOf]; omega)
            | (go_ret; exact ⟨by rw [right_no s k hlt (by rw [← HX.out]; simp [okCh] <;> omega)]; rfl, (by repeat (first | with_reducible exact Below.refl _ _ | with_reducible assumption | with_reducible refine ExtD ?_ | with_reducible refine ExtDN ?_ | with_reducible refine ExtA ?_ | (with_reducible refine ExtR ?_ ?_; (first | omega | (dsimp only; omega) | (simp; done) | (simp; omega))) | (with_reducible refine ExtS ?_ ?_; (first | omega | (dsimp only; omega) | (simp; done) | (simp; omega))) | with_reducible refine Ext.tr ?_ (by with_reducible assumption)))⟩)
        · have hb : rightB s = true := right_yes s (by have := H0.out; omega) (by omega) (fun j hj => Hall.out j (by omega))
          go_wp2_with fail
          go_ret
          exact ⟨by rw [hb]; rfl, (by repeat (first | with_reducible exact Below.refl _ _ | with_reducible assumption | with_reducible refine ExtD ?_ | with_reducible refine ExtDN ?_ | with_reducible refine ExtA ?_ | (with_reducible refine ExtR ?_ ?_; (first | omega | (dsimp only; omega) | (simp; done) | (simp; omega))) | (with_reducible refine ExtS ?_ ?_; (first | omega | (dsimp only; omega) | (simp; done) | (simp; omega))) | with_reducible refine Ext.tr ?_ (by with_reducible assumption)))⟩
set_option maxRecDepth 100000 in
set_option maxHeartbeats 2000000 in
theorem rright_any (s : ByteArray) (w : World) : Calls Try.prog 39 #[.string s] w fun e w' => e = .returned (.bool (rightB s)) ∧ Ext w w' := by
  by_cases h0 : s.size = 0
  · have hb : rightB s = false := by unfold rightB; simp [h0]
    rw [hb]
    have d0 : decide ((s.size : Int) < 1) = true := by simp; omega
    clear hb h0
    go_enter Try.func39, Try.ntmps39
    go_wp2_with fail
    go_ret
    exact ⟨rfl, (by repeat (first | with_reducible exact Below.refl _ _ | with_reducible assumption | with_reducible refine ExtD ?_ | with_reducible refine ExtDN ?_ | with_reducible refine ExtA ?_ | (with_reducible refine ExtR ?_ ?_; (first | omega | (dsimp only; omega) | (simp; done) | (simp; omega))) | (with_reducible refine ExtS ?_ ?_; (first | omega | (dsimp only; omega) | (simp; done) | (simp; omega))) | with_reducible refine Ext.tr ?_ (by with_reducible assumption)))⟩
  · have d0 : decide ((s.size : Int) < 1) = false := by simp; omega
    by_cases h1 : 24 < s.size
    · have hb : rightB s = false := by unfold rightB; simp; omega
      rw [hb]
      have d1 : decide ((24 : Int) < (s.size : Int)) = true := by simp; omega
      clear hb h0
      go_enter Try.func39, Try.ntmps39
      go_wp2_with fail
      go_ret
      exact ⟨rfl, (by repeat (first | with_reducible exact Below.refl _ _ | with_reducible assumption | with_reducible refine ExtD ?_ | with_reducible refine ExtDN ?_ | with_reducible refine ExtA ?_ | (with_reducible refine ExtR ?_ ?_; (first | omega | (dsimp only; omega) | (simp; done) | (simp; omega))) | (with_reducible refine ExtS ?_ ?_; (first | omega | (dsimp only; omega) | (simp; done) | (simp; omega))) | with_reducible refine Ext.tr ?_ (by with_reducible assumption)))⟩
    · have d1 : decide ((24 : Int) < (s.size : Int)) = false := by simp; omega
      have Hix := Lib.hid (str_at s)
      have H0 := Lib.hid h0
      have H1 := Lib.hid h1
      clear h0 h1
      go_enter Try.func39, Try.ntmps39
      go_wp2_with fail
      go_loopw [3] (fun c14 wr => RigR s.size s w c14 wr) (fun c14 _ => s.size - (intOf c14).toNat)
      case atStart => exact ⟨0, by omega, rfl, rfl, fun j h => by omega⟩
      case round =>
        obtain ⟨k, hk, rfl, rfl, hall⟩ := hrel
        have Hall := Lib.hid hall
        clear hall
        have h24 := H1.out
        by_cases hlt : k < s.size
        · have hix := Hix.out k hlt w
          obtain ⟨x, hx⟩ : ∃ x, x = chAt s k := ⟨_, rfl⟩
          rw [← hx] at hix
          have HX := Lib.hid hx
          have hx8 : x < 256 := by rw [hx]; exact chAt_lt s k
          clear hx
          go_wp2_with fail
          all_goals try simp only [bne_eq_false_iff_eq, bne_iff_ne, ne_eq, beq_iff_eq, beq_eq_false_iff_ne, Bool.not_eq_eq_eq_not, Bool.not_true, Bool.not_false, decide_eq_false_iff_not, decide_eq_true_eq] at *
          all_goals first
            | exact And.intro (rig_next Hall.out HX.out hlt (by simp [okCh] <;> omega)) (by simp [intOf]; omega)
            | (go_ret; exact ⟨by rw [right_no s k hlt (by rw [← HX.out]; simp [okCh] <;> omega)]; rfl, (by repeat (first | with_reducible exact Below.refl _ _ | with_reducible assumption | with_reducible refine ExtD ?_ | with_reducible refine ExtDN ?_ | with_reducible refine ExtA ?_ | (with_reducible refine ExtR ?_ ?_; (first | omega | (dsimp only; omega) | (simp; done) | (simp; omega))) | (with_reducible refine ExtS ?_ ?_; (first | omega | (dsimp only; omega) | (simp; done) | (simp; omega))) | with_reducible refine Ext.tr ?_ (by with_reducible assumption)))⟩)
        · have hb : rightB s = true := right_yes s (by have := H0.out; omega) (by omega) (fun j hj => Hall.out j (by omega))
          go_wp2_with fail
          go_ret
          exact ⟨by rw [hb]; rfl, (by repeat (first | with_reducible exact Below.refl _ _ | with_reducible assumption | with_reducible refine ExtD ?_ | with_reducible refine ExtDN ?_ | with_reducible refine ExtA ?_ | (with_reducible refine ExtR ?_ ?_; (first | omega | (dsimp only; omega) | (simp; done) | (simp; omega))) | (with_reducible refine ExtS ?_ ?_; (first | omega | (dsimp only; omega) | (simp; done) | (simp; omega))) | with_reducible refine Ext.tr ?_ (by with_reducible assumption)))⟩
end Go.Proofs.Ytdoaniimfhpjhaa
