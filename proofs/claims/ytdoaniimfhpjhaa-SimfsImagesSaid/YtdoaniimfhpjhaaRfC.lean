/-
  The reference's disk: barred. (Under way.)
-/
import Derived.Test.YtdoaniimfhpjhaaRfB
namespace Go.Proofs.Ytdoaniimfhpjhaa
open Go.RowKit
set_option linter.unusedVariables false
set_option linter.unusedSimpArgs false
def barE (fs : List FV) (room : Int) (down : Bool) (K : Int) (nm tn : ByteArray) (bl : Nat) (N M : Int) : Int :=
  if down = true then 3
  else if rightB nm = false ∨ (K = 3 ∧ rightB tn = false) then 50
  else if K = 0 then (if 0 ≤ atI fs nm then 52 else if 700 ≤ fs.length then 53 else 0)
  else if atI fs nm < 0 then 51
  else if K = 1 ∧ room - (sumV fs : Nat) < (bl : Nat) then 54
  else if K = 5 ∧ (N < 0 ∨ (((fs[(atI fs nm).toNat]?.map (·.data.length)).getD 0 : Nat) : Int) < N) then 1
  else if K = 6 ∧ (N < 0 ∨ M < 0 ∨ (((fs[(atI fs nm).toNat]?.map (·.data.length)).getD 0 : Nat) : Int) < N ∨ (((fs[(atI fs nm).toNat]?.map (·.data.length)).getD 0 : Nat) : Int) - N < M) then 1
  else 0
theorem at_range (fs : List FV) (nm : ByteArray) : atI fs nm = -1 ∨ ∃ (k : Nat) (f : FV), atI fs nm = (k : Nat) ∧ fs[k]? = some f ∧ f.name = nm := by
  unfold atI
  cases h : fs.findIdx? (fun f => decide (f.name = nm)) with
  | none => exact .inl rfl
  | some i =>
    obtain ⟨hl, hv, _⟩ := List.findIdx?_eq_some_iff_getElem.1 h
    exact .inr ⟨i, fs[i], rfl, List.getElem?_eq_getElem hl, of_decide_eq_true hv⟩
set_option maxRecDepth 100000 in
set_option maxHeartbeats 8000000 in
theorem rbar_low (A : Option Addr) (n c : Nat) (fs : List FV) (r1 r2 r4 r5 : Int) (r3 : Bool) (K : Int) (nm tn : ByteArray) (B : Option Addr) (bl bc : Nat) (N M : Int) (AK : Option Addr) (kl kc : Nat) (w : World) (hr : FlRd w A n fs) (hn : n ≤ 2000000)
    (hd : r3 = true ∨ (rightB nm = false ∨ (K = 3 ∧ rightB tn = false)) ∨ K = 0 ∨ atI fs nm < 0) :
    Calls Try.prog 27 #[.agg #[.slice A n c, .int .i64 r1, .int .i64 r2, .bool r3, .int .i64 r4, .int .i64 r5], .agg #[.int .i64 K, .string nm, .string tn, .slice B bl bc, .int .i64 N, .int .i64 M, .slice AK kl kc]] w
      fun e w' => e = .returned (.int .i64 (barE fs r1 r3 K nm tn bl N M)) ∧ Ext w w' := by
  have hl := hr.len
  have KR := Lib.hid fun s w1 => rright_any s w1
  have KA := Lib.hid fun (w1 : World) (h : Ext w w1) => rat_any A n c fs r1 r2 r4 r5 r3 nm w1 (hr.ext h) (by simp only [maxLen]; omega)
  cases r3
  · simp only [Bool.false_eq_true, false_or] at hd
    have HS := Lib.hid fun (w' : World) (h : Ext ((w.alloc (.cells #[.slice A n c, .int .i64 r1, .int .i64 r2, .bool false, .int .i64 r4, .int .i64 r5] 28)).alloc (.cells #[.int .i64 K, .string nm, .string tn, .slice B bl bc, .int .i64 N, .int .i64 M, .slice AK kl kc] 34)) w') => (show w'.cell? ⟨w.heap.size, 0, none⟩ = some (.slice A n c) ∧ w'.cell? ⟨w.heap.size, 1, none⟩ = some (.int .i64 r1) ∧ w'.cell? ⟨w.heap.size, 2, none⟩ = some (.int .i64 r2) ∧ w'.cell? ⟨w.heap.size, 3, none⟩ = some (.bool false) ∧ w'.cell? ⟨w.heap.size, 4, none⟩ = some (.int .i64 r4) ∧ w'.cell? ⟨w.heap.size, 5, none⟩ = some (.int .i64 r5) ∧ w'.cell? ⟨w.heap.size + 1, 0, none⟩ = some (.int .i64 K) ∧ w'.cell? ⟨w.heap.size + 1, 1, none⟩ = some (.string nm) ∧ w'.cell? ⟨w.heap.size + 1, 2, none⟩ = some (.string tn) ∧ w'.cell? ⟨w.heap.size + 1, 3, none⟩ = some (.slice B bl bc) ∧ w'.cell? ⟨w.heap.size + 1, 4, none⟩ = some (.int .i64 N) ∧ w'.cell? ⟨w.heap.size + 1, 5, none⟩ = some (.int .i64 M) from ⟨h.cell (by simp), h.cell (by simp), h.cell (by simp), h.cell (by simp), h.cell (by simp), h.cell (by simp), h.cell (by simp), h.cell (by simp), h.cell (by simp), h.cell (by simp), h.cell (by simp), h.cell (by simp)⟩)
    have K1 := Lib.hid fun w1 => KR.out nm w1
    have K2 := Lib.hid fun w1 => KR.out tn w1
    have hE : barE fs r1 false K nm tn bl N M = barE fs r1 false K nm tn bl N M := rfl
    conv at hE => rhs; unfold barE
    simp only [Bool.false_eq_true, if_false] at hE
    rw [hE]
    clear hE
    generalize rightB nm = q1 at *
    generalize rightB tn = q2 at *
    cases q1
    · rw [if_pos (.inl rfl)]
      clear hd
      go_enter Try.func27, Try.ntmps27
      go_wp2_with (go_at_call 39; go_loud ((with_reducible refine (K1.out _).mono ?_); rintro e w5 ⟨rfl, hx5⟩))
      go_ret
      exact ⟨rfl, (by repeat (first | with_reducible exact Below.refl _ _ | with_reducible assumption | with_reducible refine ExtD ?_ | with_reducible refine ExtDN ?_ | with_reducible refine ExtA ?_ | (with_reducible refine ExtR ?_ ?_; (first | omega | (dsimp only; omega) | (simp; done) | (simp; omega))) | (with_reducible refine ExtS ?_ ?_; (first | omega | (dsimp only; omega) | (simp; done) | (simp; omega))) | with_reducible refine Ext.tr ?_ (by with_reducible assumption)))⟩
    · by_cases h3 : K = 3 ∧ q2 = false
      · obtain ⟨rfl, rfl⟩ := h3
        rw [if_pos (.inr ⟨rfl, rfl⟩)]
        clear hd
        go_enter Try.func27, Try.ntmps27
        go_wp2_with (first
          | (go_at_call 39; (with_reducible refine (K1.out _).mono ?_); rintro e w5 ⟨rfl, hx5⟩; have h5 : Ext ((w.alloc (.cells #[.slice A n c, .int .i64 r1, .int .i64 r2, .bool false, .int .i64 r4, .int .i64 r5] 28)).alloc (.cells #[.int .i64 3, .string nm, .string tn, .slice B bl bc, .int .i64 N, .int .i64 M, .slice AK kl kc] 34)) w5 := hx5; obtain ⟨y0, y1, y2, y3, y4, y5, y6, y7, y8, y9, y10, y11⟩ := HS.out w5 h5)
          | (go_at_call 39; (with_reducible refine (K2.out _).mono ?_); rintro e w6 ⟨rfl, hx6⟩; have h6 : Ext ((w.alloc (.cells #[.slice A n c, .int .i64 r1, .int .i64 r2, .bool false, .int .i64 r4, .int .i64 r5] 28)).alloc (.cells #[.int .i64 3, .string nm, .string tn, .slice B bl bc, .int .i64 N, .int .i64 M, .slice AK kl kc] 34)) w6 := h5.tr hx6; obtain ⟨u0, u1, u2, u3, u4, u5, u6, u7, u8, u9, u10, u11⟩ := HS.out w6 h6)
          | (go_at_call 29; (with_reducible refine (KA.out _ (by repeat (first | with_reducible exact Below.refl _ _ | with_reducible assumption | with_reducible refine ExtD ?_ | with_reducible refine ExtDN ?_ | with_reducible refine ExtA ?_ | (with_reducible refine ExtR ?_ ?_; (first | omega | (dsimp only; omega) | (simp; done) | (simp; omega))) | (with_reducible refine ExtS ?_ ?_; (first | omega | (dsimp only; omega) | (simp; done) | (simp; omega))) | with_reducible refine Ext.tr ?_ (by with_reducible assumption)))).mono ?_); rintro e w7 ⟨rfl, hx7⟩; have h7 : Ext ((w.alloc (.cells #[.slice A n c, .int .i64 r1, .int .i64 r2, .bool false, .int .i64 r4, .int .i64 r5] 28)).alloc (.cells #[.int .i64 3, .string nm, .string tn, .slice B bl bc, .int .i64 N, .int .i64 M, .slice AK kl kc] 34)) w7 := (by repeat (first | with_reducible exact Below.refl _ _ | with_reducible assumption | with_reducible refine ExtD ?_ | with_reducible refine ExtDN ?_ | with_reducible refine ExtA ?_ | (with_reducible refine ExtR ?_ ?_; (first | omega | (dsimp only; omega) | (simp; done) | (simp; omega))) | (with_reducible refine ExtS ?_ ?_; (first | omega | (dsimp only; omega) | (simp; done) | (simp; omega))) | with_reducible refine Ext.tr ?_ (by with_reducible assumption))); obtain ⟨v0, v1, v2, v3, v4, v5, v6, v7, v8, v9, v10, v11⟩ := HS.out w7 h7))
        go_ret
        exact ⟨rfl, (by repeat (first | with_reducible exact Below.refl _ _ | with_reducible assumption | with_reducible refine ExtD ?_ | with_reducible refine ExtDN ?_ | with_reducible refine ExtA ?_ | (with_reducible refine ExtR ?_ ?_; (first | omega | (dsimp only; omega) | (simp; done) | (simp; omega))) | (with_reducible refine ExtS ?_ ?_; (first | omega | (dsimp only; omega) | (simp; done) | (simp; omega))) | with_reducible refine Ext.tr ?_ (by with_reducible assumption)))⟩
      · rw [if_neg (by rintro (h | h); exact Bool.noConfusion h; exact h3 h)]
        by_cases hK0 : K = 0
        · subst hK0
          rw [if_pos rfl]
          have HL := Lib.hid hl
          clear hd h3 hl
          rcases at_range fs nm with ha | ⟨k, f, ha, -, -⟩
          · rw [ha] at KA ⊢
            rw [if_neg (by omega), HL.out]
            by_cases h7 : 700 ≤ n
            · rw [if_pos h7]
              go_enter Try.func27, Try.ntmps27
              go_wp2_with (first
          | (go_at_call 39; (with_reducible refine (K1.out _).mono ?_); rintro e w5 ⟨rfl, hx5⟩; have h5 : Ext ((w.alloc (.cells #[.slice A n c, .int .i64 r1, .int .i64 r2, .bool false, .int .i64 r4, .int .i64 r5] 28)).alloc (.cells #[.int .i64 0, .string nm, .string tn, .slice B bl bc, .int .i64 N, .int .i64 M, .slice AK kl kc] 34)) w5 := hx5; obtain ⟨y0, y1, y2, y3, y4, y5, y6, y7, y8, y9, y10, y11⟩ := HS.out w5 h5)
          | (go_at_call 39; (with_reducible refine (K2.out _).mono ?_); rintro e w6 ⟨rfl, hx6⟩; have h6 : Ext ((w.alloc (.cells #[.slice A n c, .int .i64 r1, .int .i64 r2, .bool false, .int .i64 r4, .int .i64 r5] 28)).alloc (.cells #[.int .i64 0, .string nm, .string tn, .slice B bl bc, .int .i64 N, .int .i64 M, .slice AK kl kc] 34)) w6 := h5.tr hx6; obtain ⟨u0, u1, u2, u3, u4, u5, u6, u7, u8, u9, u10, u11⟩ := HS.out w6 h6)
          | (go_at_call 29; (with_reducible refine (KA.out _ (by repeat (first | with_reducible exact Below.refl _ _ | with_reducible assumption | with_reducible refine ExtD ?_ | with_reducible refine ExtDN ?_ | with_reducible refine ExtA ?_ | (with_reducible refine ExtR ?_ ?_; (first | omega | (dsimp only; omega) | (simp; done) | (simp; omega))) | (with_reducible refine ExtS ?_ ?_; (first | omega | (dsimp only; omega) | (simp; done) | (simp; omega))) | with_reducible refine Ext.tr ?_ (by with_reducible assumption)))).mono ?_); rintro e w7 ⟨rfl, hx7⟩; have h7 : Ext ((w.alloc (.cells #[.slice A n c, .int .i64 r1, .int .i64 r2, .bool false, .int .i64 r4, .int .i64 r5] 28)).alloc (.cells #[.int .i64 0, .string nm, .string tn, .slice B bl bc, .int .i64 N, .int .i64 M, .slice AK kl kc] 34)) w7 := (by repeat (first | with_reducible exact Below.refl _ _ | with_reducible assumption | with_reducible refine ExtD ?_ | with_reducible refine ExtDN ?_ | with_reducible refine ExtA ?_ | (with_reducible refine ExtR ?_ ?_; (first | omega | (dsimp only; omega) | (simp; done) | (simp; omega))) | (with_reducible refine ExtS ?_ ?_; (first | omega | (dsimp only; omega) | (simp; done) | (simp; omega))) | with_reducible refine Ext.tr ?_ (by with_reducible assumption))); obtain ⟨v0, v1, v2, v3, v4, v5, v6, v7, v8, v9, v10, v11⟩ := HS.out w7 h7))
              go_ret
              exact ⟨rfl, (by repeat (first | with_reducible exact Below.refl _ _ | with_reducible assumption | with_reducible refine ExtD ?_ | with_reducible refine ExtDN ?_ | with_reducible refine ExtA ?_ | (with_reducible refine ExtR ?_ ?_; (first | omega | (dsimp only; omega) | (simp; done) | (simp; omega))) | (with_reducible refine ExtS ?_ ?_; (first | omega | (dsimp only; omega) | (simp; done) | (simp; omega))) | with_reducible refine Ext.tr ?_ (by with_reducible assumption)))⟩
            · rw [if_neg h7]
              go_enter Try.func27, Try.ntmps27
              go_wp2_with (first
          | (go_at_call 39; (with_reducible refine (K1.out _).mono ?_); rintro e w5 ⟨rfl, hx5⟩; have h5 : Ext ((w.alloc (.cells #[.slice A n c, .int .i64 r1, .int .i64 r2, .bool false, .int .i64 r4, .int .i64 r5] 28)).alloc (.cells #[.int .i64 0, .string nm, .string tn, .slice B bl bc, .int .i64 N, .int .i64 M, .slice AK kl kc] 34)) w5 := hx5; obtain ⟨y0, y1, y2, y3, y4, y5, y6, y7, y8, y9, y10, y11⟩ := HS.out w5 h5)
          | (go_at_call 39; (with_reducible refine (K2.out _).mono ?_); rintro e w6 ⟨rfl, hx6⟩; have h6 : Ext ((w.alloc (.cells #[.slice A n c, .int .i64 r1, .int .i64 r2, .bool false, .int .i64 r4, .int .i64 r5] 28)).alloc (.cells #[.int .i64 0, .string nm, .string tn, .slice B bl bc, .int .i64 N, .int .i64 M, .slice AK kl kc] 34)) w6 := h5.tr hx6; obtain ⟨u0, u1, u2, u3, u4, u5, u6, u7, u8, u9, u10, u11⟩ := HS.out w6 h6)
          | (go_at_call 29; (with_reducible refine (KA.out _ (by repeat (first | with_reducible exact Below.refl _ _ | with_reducible assumption | with_reducible refine ExtD ?_ | with_reducible refine ExtDN ?_ | with_reducible refine ExtA ?_ | (with_reducible refine ExtR ?_ ?_; (first | omega | (dsimp only; omega) | (simp; done) | (simp; omega))) | (with_reducible refine ExtS ?_ ?_; (first | omega | (dsimp only; omega) | (simp; done) | (simp; omega))) | with_reducible refine Ext.tr ?_ (by with_reducible assumption)))).mono ?_); rintro e w7 ⟨rfl, hx7⟩; have h7 : Ext ((w.alloc (.cells #[.slice A n c, .int .i64 r1, .int .i64 r2, .bool false, .int .i64 r4, .int .i64 r5] 28)).alloc (.cells #[.int .i64 0, .string nm, .string tn, .slice B bl bc, .int .i64 N, .int .i64 M, .slice AK kl kc] 34)) w7 := (by repeat (first | with_reducible exact Below.refl _ _ | with_reducible assumption | with_reducible refine ExtD ?_ | with_reducible refine ExtDN ?_ | with_reducible refine ExtA ?_ | (with_reducible refine ExtR ?_ ?_; (first | omega | (dsimp only; omega) | (simp; done) | (simp; omega))) | (with_reducible refine ExtS ?_ ?_; (first | omega | (dsimp only; omega) | (simp; done) | (simp; omega))) | with_reducible refine Ext.tr ?_ (by with_reducible assumption))); obtain ⟨v0, v1, v2, v3, v4, v5, v6, v7, v8, v9, v10, v11⟩ := HS.out w7 h7))
              go_ret
              exact ⟨rfl, (by repeat (first | with_reducible exact Below.refl _ _ | with_reducible assumption | with_reducible refine ExtD ?_ | with_reducible refine ExtDN ?_ | with_reducible refine ExtA ?_ | (with_reducible refine ExtR ?_ ?_; (first | omega | (dsimp only; omega) | (simp; done) | (simp; omega))) | (with_reducible refine ExtS ?_ ?_; (first | omega | (dsimp only; omega) | (simp; done) | (simp; omega))) | with_reducible refine Ext.tr ?_ (by with_reducible assumption)))⟩
          · rw [ha] at KA ⊢
            rw [if_pos (by omega)]
            go_enter Try.func27, Try.ntmps27
            go_wp2_with (first
          | (go_at_call 39; (with_reducible refine (K1.out _).mono ?_); rintro e w5 ⟨rfl, hx5⟩; have h5 : Ext ((w.alloc (.cells #[.slice A n c, .int .i64 r1, .int .i64 r2, .bool false, .int .i64 r4, .int .i64 r5] 28)).alloc (.cells #[.int .i64 0, .string nm, .string tn, .slice B bl bc, .int .i64 N, .int .i64 M, .slice AK kl kc] 34)) w5 := hx5; obtain ⟨y0, y1, y2, y3, y4, y5, y6, y7, y8, y9, y10, y11⟩ := HS.out w5 h5)
          | (go_at_call 39; (with_reducible refine (K2.out _).mono ?_); rintro e w6 ⟨rfl, hx6⟩; have h6 : Ext ((w.alloc (.cells #[.slice A n c, .int .i64 r1, .int .i64 r2, .bool false, .int .i64 r4, .int .i64 r5] 28)).alloc (.cells #[.int .i64 0, .string nm, .string tn, .slice B bl bc, .int .i64 N, .int .i64 M, .slice AK kl kc] 34)) w6 := h5.tr hx6; obtain ⟨u0, u1, u2, u3, u4, u5, u6, u7, u8, u9, u10, u11⟩ := HS.out w6 h6)
          | (go_at_call 29; (with_reducible refine (KA.out _ (by repeat (first | with_reducible exact Below.refl _ _ | with_reducible assumption | with_reducible refine ExtD ?_ | with_reducible refine ExtDN ?_ | with_reducible refine ExtA ?_ | (with_reducible refine ExtR ?_ ?_; (first | omega | (dsimp only; omega) | (simp; done) | (simp; omega))) | (with_reducible refine ExtS ?_ ?_; (first | omega | (dsimp only; omega) | (simp; done) | (simp; omega))) | with_reducible refine Ext.tr ?_ (by with_reducible assumption)))).mono ?_); rintro e w7 ⟨rfl, hx7⟩; have h7 : Ext ((w.alloc (.cells #[.slice A n c, .int .i64 r1, .int .i64 r2, .bool false, .int .i64 r4, .int .i64 r5] 28)).alloc (.cells #[.int .i64 0, .string nm, .string tn, .slice B bl bc, .int .i64 N, .int .i64 M, .slice AK kl kc] 34)) w7 := (by repeat (first | with_reducible exact Below.refl _ _ | with_reducible assumption | with_reducible refine ExtD ?_ | with_reducible refine ExtDN ?_ | with_reducible refine ExtA ?_ | (with_reducible refine ExtR ?_ ?_; (first | omega | (dsimp only; omega) | (simp; done) | (simp; omega))) | (with_reducible refine ExtS ?_ ?_; (first | omega | (dsimp only; omega) | (simp; done) | (simp; omega))) | with_reducible refine Ext.tr ?_ (by with_reducible assumption))); obtain ⟨v0, v1, v2, v3, v4, v5, v6, v7, v8, v9, v10, v11⟩ := HS.out w7 h7))
            go_ret
            exact ⟨rfl, (by repeat (first | with_reducible exact Below.refl _ _ | with_reducible assumption | with_reducible refine ExtD ?_ | with_reducible refine ExtDN ?_ | with_reducible refine ExtA ?_ | (with_reducible refine ExtR ?_ ?_; (first | omega | (dsimp only; omega) | (simp; done) | (simp; omega))) | (with_reducible refine ExtS ?_ ?_; (first | omega | (dsimp only; omega) | (simp; done) | (simp; omega))) | with_reducible refine Ext.tr ?_ (by with_reducible assumption)))⟩
        · rw [if_neg hK0]
          have ha : atI fs nm = -1 := by
            rcases at_range fs nm with ha | ⟨k, f, ha, -, -⟩
            · exact ha
            · rcases hd with (h | h) | h | h
              · exact Bool.noConfusion h
              · exact absurd h h3
              · exact absurd h hK0
              · omega
          rw [ha] at KA ⊢
          rw [if_pos (by omega)]
          have k0 : (K == 0) = false := by simpa using hK0
          clear hd hK0
          by_cases hK3 : K = 3
          · subst hK3
            obtain rfl : q2 = true := by cases q2; exact absurd ⟨rfl, rfl⟩ h3; rfl
            clear h3
            go_enter Try.func27, Try.ntmps27
            go_wp2_with (first
          | (go_at_call 39; (with_reducible refine (K1.out _).mono ?_); rintro e w5 ⟨rfl, hx5⟩; have h5 : Ext ((w.alloc (.cells #[.slice A n c, .int .i64 r1, .int .i64 r2, .bool false, .int .i64 r4, .int .i64 r5] 28)).alloc (.cells #[.int .i64 3, .string nm, .string tn, .slice B bl bc, .int .i64 N, .int .i64 M, .slice AK kl kc] 34)) w5 := hx5; obtain ⟨y0, y1, y2, y3, y4, y5, y6, y7, y8, y9, y10, y11⟩ := HS.out w5 h5)
          | (go_at_call 39; (with_reducible refine (K2.out _).mono ?_); rintro e w6 ⟨rfl, hx6⟩; have h6 : Ext ((w.alloc (.cells #[.slice A n c, .int .i64 r1, .int .i64 r2, .bool false, .int .i64 r4, .int .i64 r5] 28)).alloc (.cells #[.int .i64 3, .string nm, .string tn, .slice B bl bc, .int .i64 N, .int .i64 M, .slice AK kl kc] 34)) w6 := h5.tr hx6; obtain ⟨u0, u1, u2, u3, u4, u5, u6, u7, u8, u9, u10, u11⟩ := HS.out w6 h6)
          | (go_at_call 29; (with_reducible refine (KA.out _ (by repeat (first | with_reducible exact Below.refl _ _ | with_reducible assumption | with_reducible refine ExtD ?_ | with_reducible refine ExtDN ?_ | with_reducible refine ExtA ?_ | (with_reducible refine ExtR ?_ ?_; (first | omega | (dsimp only; omega) | (simp; done) | (simp; omega))) | (with_reducible refine ExtS ?_ ?_; (first | omega | (dsimp only; omega) | (simp; done) | (simp; omega))) | with_reducible refine Ext.tr ?_ (by with_reducible assumption)))).mono ?_); rintro e w7 ⟨rfl, hx7⟩; have h7 : Ext ((w.alloc (.cells #[.slice A n c, .int .i64 r1, .int .i64 r2, .bool false, .int .i64 r4, .int .i64 r5] 28)).alloc (.cells #[.int .i64 3, .string nm, .string tn, .slice B bl bc, .int .i64 N, .int .i64 M, .slice AK kl kc] 34)) w7 := (by repeat (first | with_reducible exact Below.refl _ _ | with_reducible assumption | with_reducible refine ExtD ?_ | with_reducible refine ExtDN ?_ | with_reducible refine ExtA ?_ | (with_reducible refine ExtR ?_ ?_; (first | omega | (dsimp only; omega) | (simp; done) | (simp; omega))) | (with_reducible refine ExtS ?_ ?_; (first | omega | (dsimp only; omega) | (simp; done) | (simp; omega))) | with_reducible refine Ext.tr ?_ (by with_reducible assumption))); obtain ⟨v0, v1, v2, v3, v4, v5, v6, v7, v8, v9, v10, v11⟩ := HS.out w7 h7))
            go_ret
            exact ⟨rfl, (by repeat (first | with_reducible exact Below.refl _ _ | with_reducible assumption | with_reducible refine ExtD ?_ | with_reducible refine ExtDN ?_ | with_reducible refine ExtA ?_ | (with_reducible refine ExtR ?_ ?_; (first | omega | (dsimp only; omega) | (simp; done) | (simp; omega))) | (with_reducible refine ExtS ?_ ?_; (first | omega | (dsimp only; omega) | (simp; done) | (simp; omega))) | with_reducible refine Ext.tr ?_ (by with_reducible assumption)))⟩
          · have k3 : (K == 3) = false := by simpa using hK3
            clear h3 hK3
            go_enter Try.func27, Try.ntmps27
            go_wp2_with (first
          | (go_at_call 39; (with_reducible refine (K1.out _).mono ?_); rintro e w5 ⟨rfl, hx5⟩; have h5 : Ext ((w.alloc (.cells #[.slice A n c, .int .i64 r1, .int .i64 r2, .bool false, .int .i64 r4, .int .i64 r5] 28)).alloc (.cells #[.int .i64 K, .string nm, .string tn, .slice B bl bc, .int .i64 N, .int .i64 M, .slice AK kl kc] 34)) w5 := hx5; obtain ⟨y0, y1, y2, y3, y4, y5, y6, y7, y8, y9, y10, y11⟩ := HS.out w5 h5)
          | (go_at_call 39; (with_reducible refine (K2.out _).mono ?_); rintro e w6 ⟨rfl, hx6⟩; have h6 : Ext ((w.alloc (.cells #[.slice A n c, .int .i64 r1, .int .i64 r2, .bool false, .int .i64 r4, .int .i64 r5] 28)).alloc (.cells #[.int .i64 K, .string nm, .string tn, .slice B bl bc, .int .i64 N, .int .i64 M, .slice AK kl kc] 34)) w6 := h5.tr hx6; obtain ⟨u0, u1, u2, u3, u4, u5, u6, u7, u8, u9, u10, u11⟩ := HS.out w6 h6)
          | (go_at_call 29; (with_reducible refine (KA.out _ (by repeat (first | with_reducible exact Below.refl _ _ | with_reducible assumption | with_reducible refine ExtD ?_ | with_reducible refine ExtDN ?_ | with_reducible refine ExtA ?_ | (with_reducible refine ExtR ?_ ?_; (first | omega | (dsimp only; omega) | (simp; done) | (simp; omega))) | (with_reducible refine ExtS ?_ ?_; (first | omega | (dsimp only; omega) | (simp; done) | (simp; omega))) | with_reducible refine Ext.tr ?_ (by with_reducible assumption)))).mono ?_); rintro e w7 ⟨rfl, hx7⟩; have h7 : Ext ((w.alloc (.cells #[.slice A n c, .int .i64 r1, .int .i64 r2, .bool false, .int .i64 r4, .int .i64 r5] 28)).alloc (.cells #[.int .i64 K, .string nm, .string tn, .slice B bl bc, .int .i64 N, .int .i64 M, .slice AK kl kc] 34)) w7 := (by repeat (first | with_reducible exact Below.refl _ _ | with_reducible assumption | with_reducible refine ExtD ?_ | with_reducible refine ExtDN ?_ | with_reducible refine ExtA ?_ | (with_reducible refine ExtR ?_ ?_; (first | omega | (dsimp only; omega) | (simp; done) | (simp; omega))) | (with_reducible refine ExtS ?_ ?_; (first | omega | (dsimp only; omega) | (simp; done) | (simp; omega))) | with_reducible refine Ext.tr ?_ (by with_reducible assumption))); obtain ⟨v0, v1, v2, v3, v4, v5, v6, v7, v8, v9, v10, v11⟩ := HS.out w7 h7))
            go_ret
            exact ⟨rfl, (by repeat (first | with_reducible exact Below.refl _ _ | with_reducible assumption | with_reducible refine ExtD ?_ | with_reducible refine ExtDN ?_ | with_reducible refine ExtA ?_ | (with_reducible refine ExtR ?_ ?_; (first | omega | (dsimp only; omega) | (simp; done) | (simp; omega))) | (with_reducible refine ExtS ?_ ?_; (first | omega | (dsimp only; omega) | (simp; done) | (simp; omega))) | with_reducible refine Ext.tr ?_ (by with_reducible assumption)))⟩
  · have he : barE fs r1 true K nm tn bl N M = 3 := by unfold barE; rw [if_pos rfl]
    rw [he]
    clear hd
    go_enter Try.func27, Try.ntmps27
    go_wp2_with fail
    go_ret
    exact ⟨rfl, (by repeat (first | with_reducible exact Below.refl _ _ | with_reducible assumption | with_reducible refine ExtD ?_ | with_reducible refine ExtDN ?_ | with_reducible refine ExtA ?_ | (with_reducible refine ExtR ?_ ?_; (first | omega | (dsimp only; omega) | (simp; done) | (simp; omega))) | (with_reducible refine ExtS ?_ ?_; (first | omega | (dsimp only; omega) | (simp; done) | (simp; omega))) | with_reducible refine Ext.tr ?_ (by with_reducible assumption)))⟩
set_option maxRecDepth 100000 in
set_option maxHeartbeats 8000000 in
theorem rbar_high (A : Option Addr) (n c : Nat) (fs : List FV) (r1 r2 r4 r5 : Int) (K : Int) (nm tn : ByteArray) (B : Option Addr) (bl bc : Nat) (N M : Int) (AK : Option Addr) (kl kc : Nat) (w : World) (hr : FlRd w A n fs) (hn : n ≤ 2000000)
    (h1 : rightB nm = true) (h3 : ¬ (K = 3 ∧ rightB tn = false)) (hK0 : K ≠ 0) (hK1 : K ≠ 1) (k : Nat) (f : FV) (ha : atI fs nm = (k : Nat)) (hf : fs[k]? = some f) (hfl : f.data.length ≤ 67108864) (hN : IsI64 N) (hM : IsI64 M) :
    Calls Try.prog 27 #[.agg #[.slice A n c, .int .i64 r1, .int .i64 r2, .bool false, .int .i64 r4, .int .i64 r5], .agg #[.int .i64 K, .string nm, .string tn, .slice B bl bc, .int .i64 N, .int .i64 M, .slice AK kl kc]] w
      fun e w' => e = .returned (.int .i64 (barE fs r1 false K nm tn bl N M)) ∧ Ext w w' := by
  have hl := hr.len
  unfold IsI64 at hN hM
  have hkn : k < n := by rw [← hl]; exact (List.getElem?_eq_some_iff.1 hf).1
  have KR := Lib.hid fun s w1 => rright_any s w1
  have KA := Lib.hid fun (w1 : World) (h : Ext w w1) => rat_any A n c fs r1 r2 r4 r5 false nm w1 (hr.ext h) (by simp only [maxLen]; omega)
  rw [ha] at KA
  have hE : barE fs r1 false K nm tn bl N M = if K = 5 ∧ (N < 0 ∨ (f.data.length : Int) < N) then 1 else if K = 6 ∧ (N < 0 ∨ M < 0 ∨ (f.data.length : Int) < N ∨ (f.data.length : Int) - N < M) then 1 else 0 := by
    unfold barE
    rw [if_neg (by simp), if_neg (by rw [h1]; rintro (h | h); exact Bool.noConfusion h; exact h3 h), if_neg hK0, if_neg (by rw [ha]; omega), if_neg (fun h => hK1 h.1), ha]
    simp only [Int.toNat_natCast, hf, Option.map_some, Option.getD_some]
  rw [hE]
  clear hE
  have HS := Lib.hid fun (w' : World) (h : Ext ((w.alloc (.cells #[.slice A n c, .int .i64 r1, .int .i64 r2, .bool false, .int .i64 r4, .int .i64 r5] 28)).alloc (.cells #[.int .i64 K, .string nm, .string tn, .slice B bl bc, .int .i64 N, .int .i64 M, .slice AK kl kc] 34)) w') => (show w'.cell? ⟨w.heap.size, 0, none⟩ = some (.slice A n c) ∧ w'.cell? ⟨w.heap.size, 1, none⟩ = some (.int .i64 r1) ∧ w'.cell? ⟨w.heap.size, 2, none⟩ = some (.int .i64 r2) ∧ w'.cell? ⟨w.heap.size, 3, none⟩ = some (.bool false) ∧ w'.cell? ⟨w.heap.size, 4, none⟩ = some (.int .i64 r4) ∧ w'.cell? ⟨w.heap.size, 5, none⟩ = some (.int .i64 r5) ∧ w'.cell? ⟨w.heap.size + 1, 0, none⟩ = some (.int .i64 K) ∧ w'.cell? ⟨w.heap.size + 1, 1, none⟩ = some (.string nm) ∧ w'.cell? ⟨w.heap.size + 1, 2, none⟩ = some (.string tn) ∧ w'.cell? ⟨w.heap.size + 1, 3, none⟩ = some (.slice B bl bc) ∧ w'.cell? ⟨w.heap.size + 1, 4, none⟩ = some (.int .i64 N) ∧ w'.cell? ⟨w.heap.size + 1, 5, none⟩ = some (.int .i64 M) from ⟨h.cell (by simp), h.cell (by simp), h.cell (by simp), h.cell (by simp), h.cell (by simp), h.cell (by simp), h.cell (by simp), h.cell (by simp), h.cell (by simp), h.cell (by simp), h.cell (by simp), h.cell (by simp)⟩)
  have K1 := Lib.hid fun w1 => KR.out nm w1
  have K2 := Lib.hid fun w1 => KR.out tn w1
  rw [h1] at K1
  obtain ⟨b, o, f', Af, cf, hfk, rfl, hc, -⟩ := fl_at hr hkn
  obtain rfl : f' = f := by rw [hf] at hfk; injection hfk with h; exact h.symm
  have HC := Lib.hid fun (w' : World) (hx : Ext w w') => (show w'.cell? ⟨b, o + k * 3 + 1, none⟩ = some (.slice Af f'.data.length cf) from hx.cell (hc 1 _ rfl))
  obtain ⟨nd, hnd⟩ : ∃ nd, nd = f'.data.length := ⟨_, rfl⟩
  rw [← hnd] at HC hfl ⊢
  generalize rightB tn = q2 at *
  have k0 : (K == 0) = false := by simpa using hK0
  have k1 : (K == 1) = false := by simpa using hK1
  clear hc hf hfk ha hl hr hK0 hK1 h1 hnd
  by_cases hK3 : K = 3
  · subst hK3
    obtain rfl : q2 = true := by cases q2; exact absurd ⟨rfl, rfl⟩ h3; rfl
    clear h3
    rw [if_neg (by omega), if_neg (by omega)]
    go_enter Try.func27, Try.ntmps27
    go_wp2_with (first
          | (go_at_call 39; (with_reducible refine (K1.out _).mono ?_); rintro e w5 ⟨rfl, hx5⟩; have h5 : Ext ((w.alloc (.cells #[.slice (some ⟨b, o, none⟩) n c, .int .i64 r1, .int .i64 r2, .bool false, .int .i64 r4, .int .i64 r5] 28)).alloc (.cells #[.int .i64 3, .string nm, .string tn, .slice B bl bc, .int .i64 N, .int .i64 M, .slice AK kl kc] 34)) w5 := hx5; obtain ⟨y0, y1, y2, y3, y4, y5, y6, y7, y8, y9, y10, y11⟩ := HS.out w5 h5)
          | (go_at_call 39; (with_reducible refine (K2.out _).mono ?_); rintro e w6 ⟨rfl, hx6⟩; have h6 : Ext ((w.alloc (.cells #[.slice (some ⟨b, o, none⟩) n c, .int .i64 r1, .int .i64 r2, .bool false, .int .i64 r4, .int .i64 r5] 28)).alloc (.cells #[.int .i64 3, .string nm, .string tn, .slice B bl bc, .int .i64 N, .int .i64 M, .slice AK kl kc] 34)) w6 := h5.tr hx6; obtain ⟨u0, u1, u2, u3, u4, u5, u6, u7, u8, u9, u10, u11⟩ := HS.out w6 h6)
          | (go_at_call 29; (with_reducible refine (KA.out _ (by repeat (first | with_reducible exact Below.refl _ _ | with_reducible assumption | with_reducible refine ExtD ?_ | with_reducible refine ExtDN ?_ | with_reducible refine ExtA ?_ | (with_reducible refine ExtR ?_ ?_; (first | omega | (dsimp only; omega) | (simp; done) | (simp; omega))) | (with_reducible refine ExtS ?_ ?_; (first | omega | (dsimp only; omega) | (simp; done) | (simp; omega))) | with_reducible refine Ext.tr ?_ (by with_reducible assumption)))).mono ?_); rintro e w7 ⟨rfl, hx7⟩; have h7 : Ext ((w.alloc (.cells #[.slice (some ⟨b, o, none⟩) n c, .int .i64 r1, .int .i64 r2, .bool false, .int .i64 r4, .int .i64 r5] 28)).alloc (.cells #[.int .i64 3, .string nm, .string tn, .slice B bl bc, .int .i64 N, .int .i64 M, .slice AK kl kc] 34)) w7 := (by repeat (first | with_reducible exact Below.refl _ _ | with_reducible assumption | with_reducible refine ExtD ?_ | with_reducible refine ExtDN ?_ | with_reducible refine ExtA ?_ | (with_reducible refine ExtR ?_ ?_; (first | omega | (dsimp only; omega) | (simp; done) | (simp; omega))) | (with_reducible refine ExtS ?_ ?_; (first | omega | (dsimp only; omega) | (simp; done) | (simp; omega))) | with_reducible refine Ext.tr ?_ (by with_reducible assumption))); obtain ⟨v0, v1, v2, v3, v4, v5, v6, v7, v8, v9, v10, v11⟩ := HS.out w7 h7; have e1 := HC.out w7 ((ExtA (ExtA (Ext.rfl' w))).tr h7)))
    go_quiet (fail)
    go_wp2_with fail
    go_ret
    exact ⟨rfl, (by repeat (first | with_reducible exact Below.refl _ _ | with_reducible assumption | with_reducible refine ExtD ?_ | with_reducible refine ExtDN ?_ | with_reducible refine ExtA ?_ | (with_reducible refine ExtR ?_ ?_; (first | omega | (dsimp only; omega) | (simp; done) | (simp; omega))) | (with_reducible refine ExtS ?_ ?_; (first | omega | (dsimp only; omega) | (simp; done) | (simp; omega))) | with_reducible refine Ext.tr ?_ (by with_reducible assumption)))⟩
  · have k3 : (K == 3) = false := by simpa using hK3
    clear h3 hK3
    by_cases hK5 : K = 5
    · subst hK5
      rw [if_neg (c := (5 : Int) = 6 ∧ _) (by omega)]
      by_cases hb : N < 0 ∨ (nd : Int) < N
      · rw [if_pos ⟨rfl, hb⟩]
        go_enter Try.func27, Try.ntmps27
        go_wp2_with (first
          | (go_at_call 39; (with_reducible refine (K1.out _).mono ?_); rintro e w5 ⟨rfl, hx5⟩; have h5 : Ext ((w.alloc (.cells #[.slice (some ⟨b, o, none⟩) n c, .int .i64 r1, .int .i64 r2, .bool false, .int .i64 r4, .int .i64 r5] 28)).alloc (.cells #[.int .i64 5, .string nm, .string tn, .slice B bl bc, .int .i64 N, .int .i64 M, .slice AK kl kc] 34)) w5 := hx5; obtain ⟨y0, y1, y2, y3, y4, y5, y6, y7, y8, y9, y10, y11⟩ := HS.out w5 h5)
          | (go_at_call 39; (with_reducible refine (K2.out _).mono ?_); rintro e w6 ⟨rfl, hx6⟩; have h6 : Ext ((w.alloc (.cells #[.slice (some ⟨b, o, none⟩) n c, .int .i64 r1, .int .i64 r2, .bool false, .int .i64 r4, .int .i64 r5] 28)).alloc (.cells #[.int .i64 5, .string nm, .string tn, .slice B bl bc, .int .i64 N, .int .i64 M, .slice AK kl kc] 34)) w6 := h5.tr hx6; obtain ⟨u0, u1, u2, u3, u4, u5, u6, u7, u8, u9, u10, u11⟩ := HS.out w6 h6)
          | (go_at_call 29; (with_reducible refine (KA.out _ (by repeat (first | with_reducible exact Below.refl _ _ | with_reducible assumption | with_reducible refine ExtD ?_ | with_reducible refine ExtDN ?_ | with_reducible refine ExtA ?_ | (with_reducible refine ExtR ?_ ?_; (first | omega | (dsimp only; omega) | (simp; done) | (simp; omega))) | (with_reducible refine ExtS ?_ ?_; (first | omega | (dsimp only; omega) | (simp; done) | (simp; omega))) | with_reducible refine Ext.tr ?_ (by with_reducible assumption)))).mono ?_); rintro e w7 ⟨rfl, hx7⟩; have h7 : Ext ((w.alloc (.cells #[.slice (some ⟨b, o, none⟩) n c, .int .i64 r1, .int .i64 r2, .bool false, .int .i64 r4, .int .i64 r5] 28)).alloc (.cells #[.int .i64 5, .string nm, .string tn, .slice B bl bc, .int .i64 N, .int .i64 M, .slice AK kl kc] 34)) w7 := (by repeat (first | with_reducible exact Below.refl _ _ | with_reducible assumption | with_reducible refine ExtD ?_ | with_reducible refine ExtDN ?_ | with_reducible refine ExtA ?_ | (with_reducible refine ExtR ?_ ?_; (first | omega | (dsimp only; omega) | (simp; done) | (simp; omega))) | (with_reducible refine ExtS ?_ ?_; (first | omega | (dsimp only; omega) | (simp; done) | (simp; omega))) | with_reducible refine Ext.tr ?_ (by with_reducible assumption))); obtain ⟨v0, v1, v2, v3, v4, v5, v6, v7, v8, v9, v10, v11⟩ := HS.out w7 h7; have e1 := HC.out w7 ((ExtA (ExtA (Ext.rfl' w))).tr h7)))
        go_quiet (fail)
        go_wp2_with fail
        all_goals first | (exfalso; omega) | (go_ret; exact ⟨rfl, (by repeat (first | with_reducible exact Below.refl _ _ | with_reducible assumption | with_reducible refine ExtD ?_ | with_reducible refine ExtDN ?_ | with_reducible refine ExtA ?_ | (with_reducible refine ExtR ?_ ?_; (first | omega | (dsimp only; omega) | (simp; done) | (simp; omega))) | (with_reducible refine ExtS ?_ ?_; (first | omega | (dsimp only; omega) | (simp; done) | (simp; omega))) | with_reducible refine Ext.tr ?_ (by with_reducible assumption)))⟩)
      · rw [if_neg (fun h => hb h.2)]
        go_enter Try.func27, Try.ntmps27
        go_wp2_with (first
          | (go_at_call 39; (with_reducible refine (K1.out _).mono ?_); rintro e w5 ⟨rfl, hx5⟩; have h5 : Ext ((w.alloc (.cells #[.slice (some ⟨b, o, none⟩) n c, .int .i64 r1, .int .i64 r2, .bool false, .int .i64 r4, .int .i64 r5] 28)).alloc (.cells #[.int .i64 5, .string nm, .string tn, .slice B bl bc, .int .i64 N, .int .i64 M, .slice AK kl kc] 34)) w5 := hx5; obtain ⟨y0, y1, y2, y3, y4, y5, y6, y7, y8, y9, y10, y11⟩ := HS.out w5 h5)
          | (go_at_call 39; (with_reducible refine (K2.out _).mono ?_); rintro e w6 ⟨rfl, hx6⟩; have h6 : Ext ((w.alloc (.cells #[.slice (some ⟨b, o, none⟩) n c, .int .i64 r1, .int .i64 r2, .bool false, .int .i64 r4, .int .i64 r5] 28)).alloc (.cells #[.int .i64 5, .string nm, .string tn, .slice B bl bc, .int .i64 N, .int .i64 M, .slice AK kl kc] 34)) w6 := h5.tr hx6; obtain ⟨u0, u1, u2, u3, u4, u5, u6, u7, u8, u9, u10, u11⟩ := HS.out w6 h6)
          | (go_at_call 29; (with_reducible refine (KA.out _ (by repeat (first | with_reducible exact Below.refl _ _ | with_reducible assumption | with_reducible refine ExtD ?_ | with_reducible refine ExtDN ?_ | with_reducible refine ExtA ?_ | (with_reducible refine ExtR ?_ ?_; (first | omega | (dsimp only; omega) | (simp; done) | (simp; omega))) | (with_reducible refine ExtS ?_ ?_; (first | omega | (dsimp only; omega) | (simp; done) | (simp; omega))) | with_reducible refine Ext.tr ?_ (by with_reducible assumption)))).mono ?_); rintro e w7 ⟨rfl, hx7⟩; have h7 : Ext ((w.alloc (.cells #[.slice (some ⟨b, o, none⟩) n c, .int .i64 r1, .int .i64 r2, .bool false, .int .i64 r4, .int .i64 r5] 28)).alloc (.cells #[.int .i64 5, .string nm, .string tn, .slice B bl bc, .int .i64 N, .int .i64 M, .slice AK kl kc] 34)) w7 := (by repeat (first | with_reducible exact Below.refl _ _ | with_reducible assumption | with_reducible refine ExtD ?_ | with_reducible refine ExtDN ?_ | with_reducible refine ExtA ?_ | (with_reducible refine ExtR ?_ ?_; (first | omega | (dsimp only; omega) | (simp; done) | (simp; omega))) | (with_reducible refine ExtS ?_ ?_; (first | omega | (dsimp only; omega) | (simp; done) | (simp; omega))) | with_reducible refine Ext.tr ?_ (by with_reducible assumption))); obtain ⟨v0, v1, v2, v3, v4, v5, v6, v7, v8, v9, v10, v11⟩ := HS.out w7 h7; have e1 := HC.out w7 ((ExtA (ExtA (Ext.rfl' w))).tr h7)))
        go_quiet (fail)
        go_wp2_with fail
        all_goals first | (exfalso; omega) | (go_ret; exact ⟨rfl, (by repeat (first | with_reducible exact Below.refl _ _ | with_reducible assumption | with_reducible refine ExtD ?_ | with_reducible refine ExtDN ?_ | with_reducible refine ExtA ?_ | (with_reducible refine ExtR ?_ ?_; (first | omega | (dsimp only; omega) | (simp; done) | (simp; omega))) | (with_reducible refine ExtS ?_ ?_; (first | omega | (dsimp only; omega) | (simp; done) | (simp; omega))) | with_reducible refine Ext.tr ?_ (by with_reducible assumption)))⟩)
    · have k5 : (K == 5) = false := by simpa using hK5
      rw [if_neg (fun h => hK5 h.1)]
      clear hK5
      by_cases hK6 : K = 6
      · subst hK6
        by_cases hb : N < 0 ∨ M < 0 ∨ (nd : Int) < N ∨ (nd : Int) - N < M
        · rw [if_pos ⟨rfl, hb⟩]
          go_enter Try.func27, Try.ntmps27
          go_wp2_with (first
            | (go_at_call 39; (with_reducible refine (K1.out _).mono ?_); rintro e w5 ⟨rfl, hx5⟩; have h5 : Ext ((w.alloc (.cells #[.slice (some ⟨b, o, none⟩) n c, .int .i64 r1, .int .i64 r2, .bool false, .int .i64 r4, .int .i64 r5] 28)).alloc (.cells #[.int .i64 6, .string nm, .string tn, .slice B bl bc, .int .i64 N, .int .i64 M, .slice AK kl kc] 34)) w5 := hx5; obtain ⟨y0, y1, y2, y3, y4, y5, y6, y7, y8, y9, y10, y11⟩ := HS.out w5 h5)
            | (go_at_call 39; (with_reducible refine (K2.out _).mono ?_); rintro e w6 ⟨rfl, hx6⟩; have h6 : Ext ((w.alloc (.cells #[.slice (some ⟨b, o, none⟩) n c, .int .i64 r1, .int .i64 r2, .bool false, .int .i64 r4, .int .i64 r5] 28)).alloc (.cells #[.int .i64 6, .string nm, .string tn, .slice B bl bc, .int .i64 N, .int .i64 M, .slice AK kl kc] 34)) w6 := h5.tr hx6; obtain ⟨u0, u1, u2, u3, u4, u5, u6, u7, u8, u9, u10, u11⟩ := HS.out w6 h6)
            | (go_at_call 29; (with_reducible refine (KA.out _ (by repeat (first | with_reducible exact Below.refl _ _ | with_reducible assumption | with_reducible refine ExtD ?_ | with_reducible refine ExtDN ?_ | with_reducible refine ExtA ?_ | (with_reducible refine ExtR ?_ ?_; (first | omega | (dsimp only; omega) | (simp; done) | (simp; omega))) | (with_reducible refine ExtS ?_ ?_; (first | omega | (dsimp only; omega) | (simp; done) | (simp; omega))) | with_reducible refine Ext.tr ?_ (by with_reducible assumption)))).mono ?_); rintro e w7 ⟨rfl, hx7⟩; have h7 : Ext ((w.alloc (.cells #[.slice (some ⟨b, o, none⟩) n c, .int .i64 r1, .int .i64 r2, .bool false, .int .i64 r4, .int .i64 r5] 28)).alloc (.cells #[.int .i64 6, .string nm, .string tn, .slice B bl bc, .int .i64 N, .int .i64 M, .slice AK kl kc] 34)) w7 := (by repeat (first | with_reducible exact Below.refl _ _ | with_reducible assumption | with_reducible refine ExtD ?_ | with_reducible refine ExtDN ?_ | with_reducible refine ExtA ?_ | (with_reducible refine ExtR ?_ ?_; (first | omega | (dsimp only; omega) | (simp; done) | (simp; omega))) | (with_reducible refine ExtS ?_ ?_; (first | omega | (dsimp only; omega) | (simp; done) | (simp; omega))) | with_reducible refine Ext.tr ?_ (by with_reducible assumption))); obtain ⟨v0, v1, v2, v3, v4, v5, v6, v7, v8, v9, v10, v11⟩ := HS.out w7 h7; have e1 := HC.out w7 ((ExtA (ExtA (Ext.rfl' w))).tr h7)))
          go_quiet (fail)
          go_wp2_with fail
          all_goals first | (exfalso; omega) | (go_ret; exact ⟨rfl, (by repeat (first | with_reducible exact Below.refl _ _ | with_reducible assumption | with_reducible refine ExtD ?_ | with_reducible refine ExtDN ?_ | with_reducible refine ExtA ?_ | (with_reducible refine ExtR ?_ ?_; (first | omega | (dsimp only; omega) | (simp; done) | (simp; omega))) | (with_reducible refine ExtS ?_ ?_; (first | omega | (dsimp only; omega) | (simp; done) | (simp; omega))) | with_reducible refine Ext.tr ?_ (by with_reducible assumption)))⟩)
        · rw [if_neg (fun h => hb h.2)]
          go_enter Try.func27, Try.ntmps27
          go_wp2_with (first
            | (go_at_call 39; (with_reducible refine (K1.out _).mono ?_); rintro e w5 ⟨rfl, hx5⟩; have h5 : Ext ((w.alloc (.cells #[.slice (some ⟨b, o, none⟩) n c, .int .i64 r1, .int .i64 r2, .bool false, .int .i64 r4, .int .i64 r5] 28)).alloc (.cells #[.int .i64 6, .string nm, .string tn, .slice B bl bc, .int .i64 N, .int .i64 M, .slice AK kl kc] 34)) w5 := hx5; obtain ⟨y0, y1, y2, y3, y4, y5, y6, y7, y8, y9, y10, y11⟩ := HS.out w5 h5)
            | (go_at_call 39; (with_reducible refine (K2.out _).mono ?_); rintro e w6 ⟨rfl, hx6⟩; have h6 : Ext ((w.alloc (.cells #[.slice (some ⟨b, o, none⟩) n c, .int .i64 r1, .int .i64 r2, .bool false, .int .i64 r4, .int .i64 r5] 28)).alloc (.cells #[.int .i64 6, .string nm, .string tn, .slice B bl bc, .int .i64 N, .int .i64 M, .slice AK kl kc] 34)) w6 := h5.tr hx6; obtain ⟨u0, u1, u2, u3, u4, u5, u6, u7, u8, u9, u10, u11⟩ := HS.out w6 h6)
            | (go_at_call 29; (with_reducible refine (KA.out _ (by repeat (first | with_reducible exact Below.refl _ _ | with_reducible assumption | with_reducible refine ExtD ?_ | with_reducible refine ExtDN ?_ | with_reducible refine ExtA ?_ | (with_reducible refine ExtR ?_ ?_; (first | omega | (dsimp only; omega) | (simp; done) | (simp; omega))) | (with_reducible refine ExtS ?_ ?_; (first | omega | (dsimp only; omega) | (simp; done) | (simp; omega))) | with_reducible refine Ext.tr ?_ (by with_reducible assumption)))).mono ?_); rintro e w7 ⟨rfl, hx7⟩; have h7 : Ext ((w.alloc (.cells #[.slice (some ⟨b, o, none⟩) n c, .int .i64 r1, .int .i64 r2, .bool false, .int .i64 r4, .int .i64 r5] 28)).alloc (.cells #[.int .i64 6, .string nm, .string tn, .slice B bl bc, .int .i64 N, .int .i64 M, .slice AK kl kc] 34)) w7 := (by repeat (first | with_reducible exact Below.refl _ _ | with_reducible assumption | with_reducible refine ExtD ?_ | with_reducible refine ExtDN ?_ | with_reducible refine ExtA ?_ | (with_reducible refine ExtR ?_ ?_; (first | omega | (dsimp only; omega) | (simp; done) | (simp; omega))) | (with_reducible refine ExtS ?_ ?_; (first | omega | (dsimp only; omega) | (simp; done) | (simp; omega))) | with_reducible refine Ext.tr ?_ (by with_reducible assumption))); obtain ⟨v0, v1, v2, v3, v4, v5, v6, v7, v8, v9, v10, v11⟩ := HS.out w7 h7; have e1 := HC.out w7 ((ExtA (ExtA (Ext.rfl' w))).tr h7)))
          go_quiet (fail)
          go_wp2_with fail
          all_goals first | (exfalso; omega) | (go_ret; exact ⟨rfl, (by repeat (first | with_reducible exact Below.refl _ _ | with_reducible assumption | with_reducible refine ExtD ?_ | with_reducible refine ExtDN ?_ | with_reducible refine ExtA ?_ | (with_reducible refine ExtR ?_ ?_; (first | omega | (dsimp only; omega) | (simp; done) | (simp; omega))) | (with_reducible refine ExtS ?_ ?_; (first | omega | (dsimp only; omega) | (simp; done) | (simp; omega))) | with_reducible refine Ext.tr ?_ (by with_reducible assumption)))⟩)
      · have k6 : (K == 6) = false := by simpa using hK6
        rw [if_neg (fun h => hK6 h.1)]
        clear hK6
        go_enter Try.func27, Try.ntmps27
        go_wp2_with (first
          | (go_at_call 39; (with_reducible refine (K1.out _).mono ?_); rintro e w5 ⟨rfl, hx5⟩; have h5 : Ext ((w.alloc (.cells #[.slice (some ⟨b, o, none⟩) n c, .int .i64 r1, .int .i64 r2, .bool false, .int .i64 r4, .int .i64 r5] 28)).alloc (.cells #[.int .i64 K, .string nm, .string tn, .slice B bl bc, .int .i64 N, .int .i64 M, .slice AK kl kc] 34)) w5 := hx5; obtain ⟨y0, y1, y2, y3, y4, y5, y6, y7, y8, y9, y10, y11⟩ := HS.out w5 h5)
          | (go_at_call 39; (with_reducible refine (K2.out _).mono ?_); rintro e w6 ⟨rfl, hx6⟩; have h6 : Ext ((w.alloc (.cells #[.slice (some ⟨b, o, none⟩) n c, .int .i64 r1, .int .i64 r2, .bool false, .int .i64 r4, .int .i64 r5] 28)).alloc (.cells #[.int .i64 K, .string nm, .string tn, .slice B bl bc, .int .i64 N, .int .i64 M, .slice AK kl kc] 34)) w6 := h5.tr hx6; obtain ⟨u0, u1, u2, u3, u4, u5, u6, u7, u8, u9, u10, u11⟩ := HS.out w6 h6)
          | (go_at_call 29; (with_reducible refine (KA.out _ (by repeat (first | with_reducible exact Below.refl _ _ | with_reducible assumption | with_reducible refine ExtD ?_ | with_reducible refine ExtDN ?_ | with_reducible refine ExtA ?_ | (with_reducible refine ExtR ?_ ?_; (first | omega | (dsimp only; omega) | (simp; done) | (simp; omega))) | (with_reducible refine ExtS ?_ ?_; (first | omega | (dsimp only; omega) | (simp; done) | (simp; omega))) | with_reducible refine Ext.tr ?_ (by with_reducible assumption)))).mono ?_); rintro e w7 ⟨rfl, hx7⟩; have h7 : Ext ((w.alloc (.cells #[.slice (some ⟨b, o, none⟩) n c, .int .i64 r1, .int .i64 r2, .bool false, .int .i64 r4, .int .i64 r5] 28)).alloc (.cells #[.int .i64 K, .string nm, .string tn, .slice B bl bc, .int .i64 N, .int .i64 M, .slice AK kl kc] 34)) w7 := (by repeat (first | with_reducible exact Below.refl _ _ | with_reducible assumption | with_reducible refine ExtD ?_ | with_reducible refine ExtDN ?_ | with_reducible refine ExtA ?_ | (with_reducible refine ExtR ?_ ?_; (first | omega | (dsimp only; omega) | (simp; done) | (simp; omega))) | (with_reducible refine ExtS ?_ ?_; (first | omega | (dsimp only; omega) | (simp; done) | (simp; omega))) | with_reducible refine Ext.tr ?_ (by with_reducible assumption))); obtain ⟨v0, v1, v2, v3, v4, v5, v6, v7, v8, v9, v10, v11⟩ := HS.out w7 h7; have e1 := HC.out w7 ((ExtA (ExtA (Ext.rfl' w))).tr h7)))
        go_quiet (fail)
        go_wp2_with fail
        go_ret
        exact ⟨rfl, (by repeat (first | with_reducible exact Below.refl _ _ | with_reducible assumption | with_reducible refine ExtD ?_ | with_reducible refine ExtDN ?_ | with_reducible refine ExtA ?_ | (with_reducible refine ExtR ?_ ?_; (first | omega | (dsimp only; omega) | (simp; done) | (simp; omega))) | (with_reducible refine ExtS ?_ ?_; (first | omega | (dsimp only; omega) | (simp; done) | (simp; omega))) | with_reducible refine Ext.tr ?_ (by with_reducible assumption)))⟩
set_option maxRecDepth 100000 in
set_option maxHeartbeats 8000000 in
theorem rbar_one (A : Option Addr) (n c : Nat) (fs : List FV) (r1 r2 r4 r5 : Int) (nm tn : ByteArray) (B : Option Addr) (bl bc : Nat) (N M : Int) (AK : Option Addr) (kl kc : Nat) (w : World) (hr : FlRd w A n fs) (hn : n ≤ 2000000)
    (h1 : rightB nm = true) (k : Nat) (f : FV) (ha : atI fs nm = (k : Nat)) (hf : fs[k]? = some f) (hsm : sumV fs ≤ 67108864) (hr1 : 0 ≤ r1 ∧ r1 ≤ 67108864) (hbl : bl ≤ 140737488355328) :
    Calls Try.prog 27 #[.agg #[.slice A n c, .int .i64 r1, .int .i64 r2, .bool false, .int .i64 r4, .int .i64 r5], .agg #[.int .i64 1, .string nm, .string tn, .slice B bl bc, .int .i64 N, .int .i64 M, .slice AK kl kc]] w
      fun e w' => e = .returned (.int .i64 (barE fs r1 false 1 nm tn bl N M)) ∧ Ext w w' := by
  have hl := hr.len
  have hkn : k < n := by rw [← hl]; exact (List.getElem?_eq_some_iff.1 hf).1
  have KR := Lib.hid fun s w1 => rright_any s w1
  have KA := Lib.hid fun (w1 : World) (h : Ext w w1) => rat_any A n c fs r1 r2 r4 r5 false nm w1 (hr.ext h) (by simp only [maxLen]; omega)
  have KU := Lib.hid fun (w1 : World) (h : Ext w w1) => rused_any A n c fs r1 r2 r4 r5 false w1 (hr.ext h) (by simp only [maxLen]; omega) (by omega)
  rw [ha] at KA
  have hE : barE fs r1 false 1 nm tn bl N M = if r1 - (sumV fs : Nat) < (bl : Nat) then 54 else 0 := by
    unfold barE
    rw [if_neg (by simp), if_neg (by rw [h1]; rintro (h | h); exact Bool.noConfusion h; exact absurd h.1 (by omega)), if_neg (by omega), if_neg (by rw [ha]; omega)]
    by_cases hb : r1 - (sumV fs : Nat) < (bl : Nat)
    · rw [if_pos ⟨rfl, hb⟩, if_pos hb]
    · rw [if_neg (fun h => hb h.2), if_neg hb, if_neg (by omega), if_neg (by omega)]
  rw [hE]
  clear hE
  have HS := Lib.hid fun (w' : World) (h : Ext ((w.alloc (.cells #[.slice A n c, .int .i64 r1, .int .i64 r2, .bool false, .int .i64 r4, .int .i64 r5] 28)).alloc (.cells #[.int .i64 1, .string nm, .string tn, .slice B bl bc, .int .i64 N, .int .i64 M, .slice AK kl kc] 34)) w') => (show w'.cell? ⟨w.heap.size, 0, none⟩ = some (.slice A n c) ∧ w'.cell? ⟨w.heap.size, 1, none⟩ = some (.int .i64 r1) ∧ w'.cell? ⟨w.heap.size, 2, none⟩ = some (.int .i64 r2) ∧ w'.cell? ⟨w.heap.size, 3, none⟩ = some (.bool false) ∧ w'.cell? ⟨w.heap.size, 4, none⟩ = some (.int .i64 r4) ∧ w'.cell? ⟨w.heap.size, 5, none⟩ = some (.int .i64 r5) ∧ w'.cell? ⟨w.heap.size + 1, 0, none⟩ = some (.int .i64 1) ∧ w'.cell? ⟨w.heap.size + 1, 1, none⟩ = some (.string nm) ∧ w'.cell? ⟨w.heap.size + 1, 2, none⟩ = some (.string tn) ∧ w'.cell? ⟨w.heap.size + 1, 3, none⟩ = some (.slice B bl bc) ∧ w'.cell? ⟨w.heap.size + 1, 4, none⟩ = some (.int .i64 N) ∧ w'.cell? ⟨w.heap.size + 1, 5, none⟩ = some (.int .i64 M) from ⟨h.cell (by simp), h.cell (by simp), h.cell (by simp), h.cell (by simp), h.cell (by simp), h.cell (by simp), h.cell (by simp), h.cell (by simp), h.cell (by simp), h.cell (by simp), h.cell (by simp), h.cell (by simp)⟩)
  have K1 := Lib.hid fun w1 => KR.out nm w1
  have K2 := Lib.hid fun w1 => KR.out tn w1
  rw [h1] at K1
  obtain ⟨b, o, f', Af, cf, hfk, rfl, hc, -⟩ := fl_at hr hkn
  have HC := Lib.hid fun (w' : World) (hx : Ext w w') => (show w'.cell? ⟨b, o + k * 3 + 1, none⟩ = some (.slice Af f'.data.length cf) from hx.cell (hc 1 _ rfl))
  obtain ⟨nd, hnd⟩ : ∃ nd, nd = f'.data.length := ⟨_, rfl⟩
  rw [← hnd] at HC
  obtain ⟨us, hus⟩ : ∃ us, us = sumV fs := ⟨_, rfl⟩
  rw [← hus] at KU hsm ⊢
  clear hc hf hfk ha hl hr h1 hnd hus
  have hw1 : IntKind.i64.wrap (r1 - (us : Nat)) = r1 - (us : Nat) := by rw [IntKind.wrap_i64]; omega
  by_cases hb : r1 - (us : Nat) < (bl : Nat)
  · rw [if_pos hb]
    go_enter Try.func27, Try.ntmps27
    go_wp2_with (first
      | (go_at_call 39; (with_reducible refine (K1.out _).mono ?_); rintro e w5 ⟨rfl, hx5⟩; have h5 : Ext ((w.alloc (.cells #[.slice (some ⟨b, o, none⟩) n c, .int .i64 r1, .int .i64 r2, .bool false, .int .i64 r4, .int .i64 r5] 28)).alloc (.cells #[.int .i64 1, .string nm, .string tn, .slice B bl bc, .int .i64 N, .int .i64 M, .slice AK kl kc] 34)) w5 := hx5; obtain ⟨y0, y1, y2, y3, y4, y5, y6, y7, y8, y9, y10, y11⟩ := HS.out w5 h5)
      | (go_at_call 39; (with_reducible refine (K2.out _).mono ?_); rintro e w6 ⟨rfl, hx6⟩; have h6 : Ext ((w.alloc (.cells #[.slice (some ⟨b, o, none⟩) n c, .int .i64 r1, .int .i64 r2, .bool false, .int .i64 r4, .int .i64 r5] 28)).alloc (.cells #[.int .i64 1, .string nm, .string tn, .slice B bl bc, .int .i64 N, .int .i64 M, .slice AK kl kc] 34)) w6 := h5.tr hx6; obtain ⟨u0, u1, u2, u3, u4, u5, u6, u7, u8, u9, u10, u11⟩ := HS.out w6 h6)
      | (go_at_call 29; (with_reducible refine (KA.out _ (by repeat (first | with_reducible exact Below.refl _ _ | with_reducible assumption | with_reducible refine ExtD ?_ | with_reducible refine ExtDN ?_ | with_reducible refine ExtA ?_ | (with_reducible refine ExtR ?_ ?_; (first | omega | (dsimp only; omega) | (simp; done) | (simp; omega))) | (with_reducible refine ExtS ?_ ?_; (first | omega | (dsimp only; omega) | (simp; done) | (simp; omega))) | with_reducible refine Ext.tr ?_ (by with_reducible assumption)))).mono ?_); rintro e w7 ⟨rfl, hx7⟩; have h7 : Ext ((w.alloc (.cells #[.slice (some ⟨b, o, none⟩) n c, .int .i64 r1, .int .i64 r2, .bool false, .int .i64 r4, .int .i64 r5] 28)).alloc (.cells #[.int .i64 1, .string nm, .string tn, .slice B bl bc, .int .i64 N, .int .i64 M, .slice AK kl kc] 34)) w7 := (by repeat (first | with_reducible exact Below.refl _ _ | with_reducible assumption | with_reducible refine ExtD ?_ | with_reducible refine ExtDN ?_ | with_reducible refine ExtA ?_ | (with_reducible refine ExtR ?_ ?_; (first | omega | (dsimp only; omega) | (simp; done) | (simp; omega))) | (with_reducible refine ExtS ?_ ?_; (first | omega | (dsimp only; omega) | (simp; done) | (simp; omega))) | with_reducible refine Ext.tr ?_ (by with_reducible assumption))); obtain ⟨v0, v1, v2, v3, v4, v5, v6, v7, v8, v9, v10, v11⟩ := HS.out w7 h7; have e1 := HC.out w7 ((ExtA (ExtA (Ext.rfl' w))).tr h7)))
    go_region_held3 (fun w' : World => w'.cell? ⟨w.heap.size, 0, none⟩ = some (.slice (some ⟨b, o, none⟩) n c) ∧ w'.cell? ⟨w.heap.size, 1, none⟩ = some (.int .i64 r1) ∧ w'.cell? ⟨w.heap.size, 2, none⟩ = some (.int .i64 r2) ∧ w'.cell? ⟨w.heap.size, 3, none⟩ = some (.bool false) ∧ w'.cell? ⟨w.heap.size, 4, none⟩ = some (.int .i64 r4) ∧ w'.cell? ⟨w.heap.size, 5, none⟩ = some (.int .i64 r5) ∧ w'.cell? ⟨w.heap.size + 1, 0, none⟩ = some (.int .i64 1) ∧ w'.cell? ⟨w.heap.size + 1, 1, none⟩ = some (.string nm) ∧ w'.cell? ⟨w.heap.size + 1, 2, none⟩ = some (.string tn) ∧ w'.cell? ⟨w.heap.size + 1, 3, none⟩ = some (.slice B bl bc) ∧ w'.cell? ⟨w.heap.size + 1, 4, none⟩ = some (.int .i64 N) ∧ w'.cell? ⟨w.heap.size + 1, 5, none⟩ = some (.int .i64 M)) (exact HS.out _ (by repeat (first | with_reducible exact Below.refl _ _ | with_reducible assumption | with_reducible refine ExtD ?_ | with_reducible refine ExtDN ?_ | with_reducible refine ExtA ?_ | (with_reducible refine ExtR ?_ ?_; (first | omega | (dsimp only; omega) | (simp; done) | (simp; omega))) | (with_reducible refine ExtS ?_ ?_; (first | omega | (dsimp only; omega) | (simp; done) | (simp; omega))) | with_reducible refine Ext.tr ?_ (by with_reducible assumption))))
      ((go_at_call 21; (with_reducible refine (KU.out _ (by repeat (first | with_reducible exact Below.refl _ _ | with_reducible assumption | with_reducible refine ExtD ?_ | with_reducible refine ExtDN ?_ | with_reducible refine ExtA ?_ | (with_reducible refine ExtR ?_ ?_; (first | omega | (dsimp only; omega) | (simp; done) | (simp; omega))) | (with_reducible refine ExtS ?_ ?_; (first | omega | (dsimp only; omega) | (simp; done) | (simp; omega))) | with_reducible refine Ext.tr ?_ (by with_reducible assumption)))).mono ?_); rintro e w8 ⟨rfl, hx8⟩))
    go_wp2_with fail
    all_goals first | (exfalso; omega) | (go_ret; exact ⟨rfl, (by repeat (first | with_reducible exact Below.refl _ _ | with_reducible assumption | with_reducible refine ExtD ?_ | with_reducible refine ExtDN ?_ | with_reducible refine ExtA ?_ | (with_reducible refine ExtR ?_ ?_; (first | omega | (dsimp only; omega) | (simp; done) | (simp; omega))) | (with_reducible refine ExtS ?_ ?_; (first | omega | (dsimp only; omega) | (simp; done) | (simp; omega))) | with_reducible refine Ext.tr ?_ (by with_reducible assumption)))⟩)
  · rw [if_neg hb]
    go_enter Try.func27, Try.ntmps27
    go_wp2_with (first
      | (go_at_call 39; (with_reducible refine (K1.out _).mono ?_); rintro e w5 ⟨rfl, hx5⟩; have h5 : Ext ((w.alloc (.cells #[.slice (some ⟨b, o, none⟩) n c, .int .i64 r1, .int .i64 r2, .bool false, .int .i64 r4, .int .i64 r5] 28)).alloc (.cells #[.int .i64 1, .string nm, .string tn, .slice B bl bc, .int .i64 N, .int .i64 M, .slice AK kl kc] 34)) w5 := hx5; obtain ⟨y0, y1, y2, y3, y4, y5, y6, y7, y8, y9, y10, y11⟩ := HS.out w5 h5)
      | (go_at_call 39; (with_reducible refine (K2.out _).mono ?_); rintro e w6 ⟨rfl, hx6⟩; have h6 : Ext ((w.alloc (.cells #[.slice (some ⟨b, o, none⟩) n c, .int .i64 r1, .int .i64 r2, .bool false, .int .i64 r4, .int .i64 r5] 28)).alloc (.cells #[.int .i64 1, .string nm, .string tn, .slice B bl bc, .int .i64 N, .int .i64 M, .slice AK kl kc] 34)) w6 := h5.tr hx6; obtain ⟨u0, u1, u2, u3, u4, u5, u6, u7, u8, u9, u10, u11⟩ := HS.out w6 h6)
      | (go_at_call 29; (with_reducible refine (KA.out _ (by repeat (first | with_reducible exact Below.refl _ _ | with_reducible assumption | with_reducible refine ExtD ?_ | with_reducible refine ExtDN ?_ | with_reducible refine ExtA ?_ | (with_reducible refine ExtR ?_ ?_; (first | omega | (dsimp only; omega) | (simp; done) | (simp; omega))) | (with_reducible refine ExtS ?_ ?_; (first | omega | (dsimp only; omega) | (simp; done) | (simp; omega))) | with_reducible refine Ext.tr ?_ (by with_reducible assumption)))).mono ?_); rintro e w7 ⟨rfl, hx7⟩; have h7 : Ext ((w.alloc (.cells #[.slice (some ⟨b, o, none⟩) n c, .int .i64 r1, .int .i64 r2, .bool false, .int .i64 r4, .int .i64 r5] 28)).alloc (.cells #[.int .i64 1, .string nm, .string tn, .slice B bl bc, .int .i64 N, .int .i64 M, .slice AK kl kc] 34)) w7 := (by repeat (first | with_reducible exact Below.refl _ _ | with_reducible assumption | with_reducible refine ExtD ?_ | with_reducible refine ExtDN ?_ | with_reducible refine ExtA ?_ | (with_reducible refine ExtR ?_ ?_; (first | omega | (dsimp only; omega) | (simp; done) | (simp; omega))) | (with_reducible refine ExtS ?_ ?_; (first | omega | (dsimp only; omega) | (simp; done) | (simp; omega))) | with_reducible refine Ext.tr ?_ (by with_reducible assumption))); obtain ⟨v0, v1, v2, v3, v4, v5, v6, v7, v8, v9, v10, v11⟩ := HS.out w7 h7; have e1 := HC.out w7 ((ExtA (ExtA (Ext.rfl' w))).tr h7)))
    go_region_held3 (fun w' : World => w'.cell? ⟨w.heap.size, 0, none⟩ = some (.slice (some ⟨b, o, none⟩) n c) ∧ w'.cell? ⟨w.heap.size, 1, none⟩ = some (.int .i64 r1) ∧ w'.cell? ⟨w.heap.size, 2, none⟩ = some (.int .i64 r2) ∧ w'.cell? ⟨w.heap.size, 3, none⟩ = some (.bool false) ∧ w'.cell? ⟨w.heap.size, 4, none⟩ = some (.int .i64 r4) ∧ w'.cell? ⟨w.heap.size, 5, none⟩ = some (.int .i64 r5) ∧ w'.cell? ⟨w.heap.size + 1, 0, none⟩ = some (.int .i64 1) ∧ w'.cell? ⟨w.heap.size + 1, 1, none⟩ = some (.string nm) ∧ w'.cell? ⟨w.heap.size + 1, 2, none⟩ = some (.string tn) ∧ w'.cell? ⟨w.heap.size + 1, 3, none⟩ = some (.slice B bl bc) ∧ w'.cell? ⟨w.heap.size + 1, 4, none⟩ = some (.int .i64 N) ∧ w'.cell? ⟨w.heap.size + 1, 5, none⟩ = some (.int .i64 M)) (exact HS.out _ (by repeat (first | with_reducible exact Below.refl _ _ | with_reducible assumption | with_reducible refine ExtD ?_ | with_reducible refine ExtDN ?_ | with_reducible refine ExtA ?_ | (with_reducible refine ExtR ?_ ?_; (first | omega | (dsimp only; omega) | (simp; done) | (simp; omega))) | (with_reducible refine ExtS ?_ ?_; (first | omega | (dsimp only; omega) | (simp; done) | (simp; omega))) | with_reducible refine Ext.tr ?_ (by with_reducible assumption))))
      ((go_at_call 21; (with_reducible refine (KU.out _ (by repeat (first | with_reducible exact Below.refl _ _ | with_reducible assumption | with_reducible refine ExtD ?_ | with_reducible refine ExtDN ?_ | with_reducible refine ExtA ?_ | (with_reducible refine ExtR ?_ ?_; (first | omega | (dsimp only; omega) | (simp; done) | (simp; omega))) | (with_reducible refine ExtS ?_ ?_; (first | omega | (dsimp only; omega) | (simp; done) | (simp; omega))) | with_reducible refine Ext.tr ?_ (by with_reducible assumption)))).mono ?_); rintro e w8 ⟨rfl, hx8⟩))
    go_wp2_with fail
    all_goals first | (exfalso; omega) | (go_ret; exact ⟨rfl, (by repeat (first | with_reducible exact Below.refl _ _ | with_reducible assumption | with_reducible refine ExtD ?_ | with_reducible refine ExtDN ?_ | with_reducible refine ExtA ?_ | (with_reducible refine ExtR ?_ ?_; (first | omega | (dsimp only; omega) | (simp; done) | (simp; omega))) | (with_reducible refine ExtS ?_ ?_; (first | omega | (dsimp only; omega) | (simp; done) | (simp; omega))) | with_reducible refine Ext.tr ?_ (by with_reducible assumption)))⟩)
end Go.Proofs.Ytdoaniimfhpjhaa
