/-
  Files by value: the walks of the reference's Same (at equal lists) and Copy.
-/
import Derived.Test.YtjajbbgebblalaaGreatDoorFsT
import Derived.Deep.QuietTactic
import Derived.BigQuiet
namespace Go.Proofs.YtjajbbgebblalaaGreatDoor
open Go.RowKit
set_option linter.unusedVariables false
set_option linter.unusedSimpArgs false
theorem quiet_addB {P : Program} {f : FuncId} {args : Array Value} {w : World} {a n : Nat} {v : Value}
    (h : Calls P f args (w.drewN (a + n)) fun e w' => e = .returned v ∧ ∃ m, w' = (w.drewN (a + n)).drewN m) :
    Calls P f args (w.drewN (a + n)) fun e w'' => e = .returned v ∧ ∃ m, w'' = w.drewN (a + m) :=
  h.mono fun _ _ ⟨he, m, hm⟩ => ⟨he, n + m, by rw [hm, World.drewN_drewN, Nat.add_assoc]⟩
theorem quiet_at {P : Program} {f : FuncId} {args : Array Value} {w : World} {a : Nat} {v : Value}
    (h : Calls P f args (w.drewN a) fun e w' => e = .returned v ∧ ∃ m, w' = (w.drewN a).drewN m) :
    Calls P f args (w.drewN a) fun e w'' => e = .returned v ∧ ∃ m, w'' = w.drewN m :=
  h.mono fun _ _ ⟨he, m, hm⟩ => ⟨he, a + m, by rw [hm, World.drewN_drewN]⟩
def CntR (W : World) (n : Nat) (i : Value) (wr : World) : Prop := ∃ k : Nat, k ≤ n ∧ i = .int .i64 k ∧ Ext W wr
set_option maxRecDepth 100000 in
set_option maxHeartbeats 4000000 in
theorem fsame_yes (A B : Option Addr) (n c c2 : Nat) (fs : List FV) (w : World) (h1 : FlRd w A n fs) (h2 : FlRd w B n fs) (hn : n ≤ maxLen) (hl : ∀ f ∈ fs, f.data.length ≤ maxLen) :
    Calls Tryz.prog 18 #[.slice A n c, .slice B n c2] w fun e w' => e = .returned (.bool true) ∧ Ext w w' := by
  unfold maxLen at hn
  have Hl := Lib.hid hl
  clear hl
  go_enter Tryz.func18, Tryz.ntmps18
  go_wp2_with fail
  go_loopw [13] (fun i wr => CntR w n i wr) (fun i _ => n - (intOf i).toNat)
  case atStart => exact ⟨0, by omega, rfl, (by repeat (first | with_reducible exact Below.refl _ _ | with_reducible assumption | with_reducible refine ExtD ?_ | with_reducible refine ExtDN ?_ | with_reducible refine ExtA ?_ | (with_reducible refine ExtR ?_ ?_; (first | omega | (dsimp only; omega) | (simp; done) | (simp; omega))) | (with_reducible refine ExtS ?_ ?_; (first | omega | (dsimp only; omega) | (simp; done) | (simp; omega))) | with_reducible refine Ext.tr ?_ (by with_reducible assumption)))⟩
  case round =>
    obtain ⟨k, hk, rfl, hx⟩ := hrel
    by_cases hlt : k < n
    · obtain ⟨b, o, f, Af, cf, hfk, rfl, hc, hrf⟩ := fl_at (h1.ext hx) hlt
      obtain ⟨b', o', g, Ag, cg, hgk, rfl, hd, hrg⟩ := fl_at (h2.ext hx) hlt
      have hgf : g = f := by rw [hfk] at hgk; injection hgk with h; exact h.symm
      subst hgf
      have hfl := Hl.out g (List.mem_of_getElem? hfk)
      obtain ⟨nm, fb, sf⟩ := g
      dsimp only at hfl
      have c0 := hc 0 _ rfl
      have c1 := hc 1 _ rfl
      have c2 := hc 2 _ rfl
      have d0 := hd 0 _ rfl
      have d1 := hd 1 _ rfl
      have d2 := hd 2 _ rfl
      simp only [Nat.add_zero] at c0 d0
      dsimp only at c0 c1 c2 d0 d1 d2 hrf hrg
      have hnn : (nm.toList != nm.toList) = false := by simp
      clear hc hd hfk hgk h1 h2
      have Hsm : Hid (∀ d, Calls Tryz.prog 29 #[.slice Af fb.length cf, .slice Ag fb.length cg] (wr.drewN d) fun e w' => e = .returned (.bool true) ∧ ∃ m, w' = (wr.drewN d).drewN m) :=
        Lib.hid fun d => by have := same_q Af Ag _ cf _ cg fb fb (wr.drewN d) (drawn_keep hrf) (drawn_keep hrg) hfl; simpa using this
      go_wp2_with fail
      go_quiet ((go_at_call 29; exact quiet_at (Hsm.out _)))
      go_wp2_with fail
      go_roundw
      case rel => exact ⟨k + 1, by omega, by go_num, (by repeat (first | with_reducible exact Below.refl _ _ | with_reducible assumption | with_reducible refine ExtD ?_ | with_reducible refine ExtDN ?_ | with_reducible refine ExtA ?_ | (with_reducible refine ExtR ?_ ?_; (first | omega | (dsimp only; omega) | (simp; done) | (simp; omega))) | (with_reducible refine ExtS ?_ ?_; (first | omega | (dsimp only; omega) | (simp; done) | (simp; omega))) | with_reducible refine Ext.tr ?_ (by with_reducible assumption)))⟩
      case measure => simp [intOf]; omega
    · go_wp2_with fail
      go_ret
      exact ⟨rfl, hx⟩
def VCopR (W : World) (fs : List FV) (c3 c8 : Value) (wr : World) : Prop :=
  ∃ (k : Nat) (A : Option Addr) (c : Nat) (hs : List HV), c8 = .int .i64 k ∧ k ≤ fs.length ∧ c3 = .slice A k c ∧ hs.map (·.1) = fs.take k ∧ Ext W wr ∧ OwnFl wr W.heap.size A k c hs
set_option maxRecDepth 100000 in
set_option maxHeartbeats 4000000 in
theorem vcopy_any (A : Option Addr) (n c : Nat) (fs : List FV) (w : World) (hr : FlRd w A n fs) (hn : n * 48 ≤ 140737488351232) (hb : ∀ f ∈ fs, f.data.length ≤ 140737488351232) :
    Calls Tryz.prog 12 #[.slice A n c] w (GaveF w fs) := by
  have Hlen := Lib.hid hr.len
  go_enter Tryz.func12, Tryz.ntmps12
  go_wp2_with fail
  go_loopw [3, 8] (fun c3 c8 wr => VCopR w fs c3 c8 wr) (fun _ c8 _ => n - (intOf c8).toNat)
  case atStart => exact ⟨0, _, _, [], rfl, by omega, rfl, rfl, (by repeat (first | with_reducible exact Below.refl _ _ | with_reducible assumption | with_reducible refine ExtD ?_ | with_reducible refine ExtDN ?_ | with_reducible refine ExtA ?_ | (with_reducible refine ExtR ?_ ?_; (first | omega | (dsimp only; omega) | (simp; done) | (simp; omega))) | (with_reducible refine ExtS ?_ ?_; (first | omega | (dsimp only; omega) | (simp; done) | (simp; omega))) | with_reducible refine Ext.tr ?_ (by with_reducible assumption))), own_new w w.heap.size #[] _ 0 (Nat.le_refl _) (by decide) rfl, fun h hh => by cases hh⟩
  case round =>
    obtain ⟨k, A1, c1, gs, rfl, hk, rfl, hmap, hx, hown⟩ := hrel
    have Hk := Lib.hid hk
    have Hmap := Lib.hid hmap
    have Hown := Lib.hid hown
    have Hgl := Lib.hid hown.len
    clear hk hmap hown
    by_cases hlt : k < n
    · obtain ⟨b, o, f, Af, cf, hfk, rfl, hc, hrf⟩ := fl_at hr hlt
      have hfb := hb f (List.mem_of_getElem? hfk)
      have Hfk := Lib.hid hfk
      obtain ⟨nm, fb, sf⟩ := f
      dsimp only at hfb
      have e0 := hc 0 _ rfl
      have e1 := hc 1 _ rfl
      have e2 := hc 2 _ rfl
      simp only [Nat.add_zero] at e0
      dsimp only at e0 e1 e2 hrf
      have KC := Lib.hid fun (w1 : World) (hx1 : Ext w w1) => copy_any Af fb.length cf fb w1 (hrf.ext hx1) (by omega)
      unfold NewB at KC
      obtain ⟨n0, hn0⟩ : ∃ n0, n0 = fb.length := ⟨_, rfl⟩
      rw [← hn0] at KC e1 hfb
      have Hn0 := Lib.hid hn0
      have Hrd := Lib.hid fun (W : World) (A2 : Option Addr) (c2 : Nat) => (show RdN (W.alloc (.cells #[.string nm, .slice A2 n0 c2, .int .i64 sf] 58)) 3 (some ⟨W.heap.size, 0, none⟩) 1 (flCells [(⟨nm, fb, sf⟩, A2, c2)]) from by rw [hn0]; exact rdV_new W _ ⟨nm, fb, sf⟩ A2 c2 rfl)
      have HS := Lib.hid fun (w' : World) (hx' : Ext w w') => (show w'.cell? ⟨b, o + k * 3, none⟩ = some (.string nm) ∧ w'.cell? ⟨b, o + k * 3 + 1, none⟩ = some (.slice Af n0 cf) ∧ w'.cell? ⟨b, o + k * 3 + 2, none⟩ = some (.int .i64 sf) from ⟨hx'.cell e0, hx'.cell e1, hx'.cell e2⟩)
      clear hfk hn0 hc e0 e1 e2
      go_wp2_with fail
      go_region_held3 (fun w' => w'.cell? ⟨b, o + k * 3, none⟩ = some (.string nm) ∧ w'.cell? ⟨b, o + k * 3 + 1, none⟩ = some (.slice Af n0 cf) ∧ w'.cell? ⟨b, o + k * 3 + 2, none⟩ = some (.int .i64 sf)) (exact HS.out _ (by repeat (first | with_reducible exact Below.refl _ _ | with_reducible assumption | with_reducible refine ExtD ?_ | with_reducible refine ExtDN ?_ | with_reducible refine ExtA ?_ | (with_reducible refine ExtR ?_ ?_; (first | omega | (dsimp only; omega) | (simp; done) | (simp; omega))) | (with_reducible refine ExtS ?_ ?_; (first | omega | (dsimp only; omega) | (simp; done) | (simp; omega))) | with_reducible refine Ext.tr ?_ (by with_reducible assumption))))
        (first
          | (go_at_call 31; go_loud ((with_reducible refine (KC.out _ (by repeat (first | with_reducible exact Below.refl _ _ | with_reducible assumption | with_reducible refine ExtD ?_ | with_reducible refine ExtDN ?_ | with_reducible refine ExtA ?_ | (with_reducible refine ExtR ?_ ?_; (first | omega | (dsimp only; omega) | (simp; done) | (simp; omega))) | (with_reducible refine ExtS ?_ ?_; (first | omega | (dsimp only; omega) | (simp; done) | (simp; omega))) | with_reducible refine Ext.tr ?_ (by with_reducible assumption)))).mono ?_); rintro e w2 ⟨A2, c2, rfl, hx2, hown2⟩))
          | (change (if Region.wanted ⟨some 30, _, _, _, _, _⟩ _ = true then _ else _); refine step_appendF rfl (some 30) rfl (.tmp 11) (.tmp 29) rfl w (by rfl) (own_ext (w := wr) (by repeat (first | with_reducible exact Below.refl _ _ | with_reducible assumption | with_reducible refine ExtD ?_ | with_reducible refine ExtDN ?_ | with_reducible refine ExtA ?_ | (with_reducible refine ExtR ?_ ?_; (first | omega | (dsimp only; omega) | (simp; done) | (simp; omega))) | (with_reducible refine ExtS ?_ ?_; (first | omega | (dsimp only; omega) | (simp; done) | (simp; omega))) | with_reducible refine Ext.tr ?_ (by with_reducible assumption))) Hown.out.1) (by repeat (first | with_reducible exact Below.refl _ _ | with_reducible assumption | with_reducible refine ExtD ?_ | with_reducible refine ExtDN ?_ | with_reducible refine ExtA ?_ | (with_reducible refine ExtR ?_ ?_; (first | omega | (dsimp only; omega) | (simp; done) | (simp; omega))) | (with_reducible refine ExtS ?_ ?_; (first | omega | (dsimp only; omega) | (simp; done) | (simp; omega))) | with_reducible refine Ext.tr ?_ (by with_reducible assumption))) (by rfl) (Hrd.out _ _ _) (by have := Hgl.out; simp; omega) ?_; intro A3 n3 c3 w3 hx3 hn3 hown3 hk3 hg3))
      go_wp2_with fail
      go_roundw
      case rel =>
        have hn : n3 = k + 1 := by rw [hn3.out, Hgl.out]; rfl
        subst hn
        have hfl : fb.length = n0 := Hn0.out.symm
        refine ⟨k + 1, A3, c3, gs ++ [(⟨nm, fb, sf⟩, A2, c2)], by go_num, by have := Hlen.out; omega, rfl, ?_, hx3, hown3, ?_⟩
        · rw [List.map_append, Hmap.out, List.take_add_one, Hfk.out]
          rfl
        · intro h hh
          rcases List.mem_append.1 hh with hh | hh
          · exact hk3 _ _ _ _ (own_ext (w := wr) (by repeat (first | with_reducible exact Below.refl _ _ | with_reducible assumption | with_reducible refine ExtD ?_ | with_reducible refine ExtDN ?_ | with_reducible refine ExtA ?_ | (with_reducible refine ExtR ?_ ?_; (first | omega | (dsimp only; omega) | (simp; done) | (simp; omega))) | (with_reducible refine ExtS ?_ ?_; (first | omega | (dsimp only; omega) | (simp; done) | (simp; omega))) | with_reducible refine Ext.tr ?_ (by with_reducible assumption))) (Hown.out.2 h hh))
          · simp only [List.mem_singleton] at hh
            subst hh
            dsimp only
            rw [hfl]
            exact hk3 _ _ _ _ (own_ext (w := w2) (by repeat (first | with_reducible exact Below.refl _ _ | with_reducible assumption | with_reducible refine ExtD ?_ | with_reducible refine ExtDN ?_ | with_reducible refine ExtA ?_ | (with_reducible refine ExtR ?_ ?_; (first | omega | (dsimp only; omega) | (simp; done) | (simp; omega))) | (with_reducible refine ExtS ?_ ?_; (first | omega | (dsimp only; omega) | (simp; done) | (simp; omega))) | with_reducible refine Ext.tr ?_ (by with_reducible assumption))) (own_base hown2 (by have := hx.size; simp; omega)))
      case measure => simp [intOf]; omega
    · obtain rfl : k = n := by have := Hk.out; have := Hlen.out; omega
      have htk : fs.take k = fs := List.take_of_length_le (by have := Hlen.out; omega)
      have Htk := Lib.hid htk
      clear htk
      go_wp2_with fail
      go_ret
      unfold GaveF
      rw [Hlen.out]
      exact ⟨A1, c1, gs, rfl, by rw [Hmap.out, Htk.out], hx, Hown.out⟩
end Go.Proofs.YtjajbbgebblalaaGreatDoor
