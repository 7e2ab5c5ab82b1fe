/-
  The walks of the reference's Alike and Plain.
-/
import Derived.Test.YtcekdfhbbfednaaFsW
namespace Go.Proofs.Ytcekdfhbbfednaa
open Go.RowKit
set_option linter.unusedVariables false
set_option linter.unusedSimpArgs false
theorem quiet_add {P : Program} {f : FuncId} {args : Array Value} {w : World} {a n : Nat} {v : Value}
    (h : Calls P f args (w.drewN (a + n)) fun e w' => e = .returned v ∧ ∃ m, w' = (w.drewN (a + n)).drewN m) :
    Calls P f args (w.drewN (a + n)) fun e w'' => e = .returned v ∧ ∃ m, w'' = w.drewN (a + m) :=
  h.mono fun _ _ ⟨he, m, hm⟩ => ⟨he, n + m, by rw [hm, World.drewN_drewN, Nat.add_assoc]⟩
def AlikeR (W : World) (n : Nat) (i : Value) (wr : World) : Prop := ∃ k : Nat, k ≤ n ∧ i = .int .i64 k ∧ Ext W wr
theorem strip_eq {f g : Fld} (h : strip f = strip g) : f.tag = g.tag ∧ f.text = g.text ∧ (f.text = true → f.bytes = g.bytes) ∧ (f.text = false → f.num = g.num) := by
  obtain ⟨t1, x1, n1, b1⟩ := f
  obtain ⟨t2, x2, n2, b2⟩ := g
  simp only [strip, Fld.mk.injEq] at h
  obtain ⟨h1, h2, h3, h4⟩ := h
  subst h1 h2
  cases x1 <;> simp_all
set_option maxRecDepth 100000 in
set_option maxHeartbeats 2000000 in
theorem alike_yes (A B : Option Addr) (n c n2 c2 : Nat) (fs gs : List Fld) (w : World) (h1 : FsRd w A n fs) (h2 : FsRd w B n2 gs) (hn : n ≤ maxLen) (hs : fs.map strip = gs.map strip) (hl : ∀ f ∈ fs, f.bytes.length ≤ maxLen) :
    Calls Try.prog 18 #[.slice A n c, .slice B n2 c2] w fun e w' => e = .returned (.bool true) ∧ Ext w w' := by
  have e1 := h1.len
  have e2 := h2.len
  have e3 : n2 = n := by rw [← e1, ← e2]; have := congrArg List.length hs; simpa using this.symm
  subst e3
  unfold maxLen at hn
  have Hl := Lib.hid hl
  have Hs := Lib.hid hs
  clear e1 e2 hl hs
  go_enter Try.func18, Try.ntmps18
  go_wp2_with fail
  go_loopw [13] (fun i wr => AlikeR w n2 i wr) (fun i _ => n2 - (intOf i).toNat)
  case atStart => exact ⟨0, by omega, rfl, (by repeat (first | with_reducible exact Below.refl _ _ | with_reducible assumption | with_reducible refine ExtD ?_ | with_reducible refine ExtDN ?_ | with_reducible refine ExtA ?_ | (with_reducible refine ExtR ?_ ?_; (first | omega | (dsimp only; omega) | (simp; done) | (simp; omega))) | (with_reducible refine ExtS ?_ ?_; (first | omega | (dsimp only; omega) | (simp; done) | (simp; omega))) | with_reducible refine Ext.tr ?_ (by with_reducible assumption)))⟩
  case round =>
    obtain ⟨k, hk, rfl, hx⟩ := hrel
    by_cases hlt : k < n2
    · obtain ⟨b, o, f, Af, cf, hfk, rfl, hc, hrf⟩ := fs_at (h1.ext hx) hlt
      obtain ⟨b', o', g, Ag, cg, hgk, rfl, hd, hrg⟩ := fs_at (h2.ext hx) hlt
      have hst : strip f = strip g := by
        have h := congrArg (fun l => l[k]?) Hs.out
        simp only [List.getElem?_map, hfk, hgk, Option.map_some, Option.some.injEq] at h
        exact h
      have hfl := Hl.out f (List.mem_of_getElem? hfk)
      obtain ⟨s1, s2, s3, s4⟩ := strip_eq hst
      obtain ⟨ft, fx, fn, fb⟩ := f
      obtain ⟨gt, gx, gn, gb⟩ := g
      dsimp only at s1 s2 s3 s4 hfl
      subst s1 s2
      have c0 := hc 0 _ rfl
      have c1 := hc 1 _ rfl
      have c2 := hc 2 _ rfl
      have c3 := hc 3 _ rfl
      have d0 := hd 0 _ rfl
      have d1 := hd 1 _ rfl
      have d2 := hd 2 _ rfl
      have d3 := hd 3 _ rfl
      simp only [Nat.add_zero] at c0 d0
      clear hc hd hfk hgk hst h1 h2
      cases fx with
      | true =>
        have s3 := s3 rfl
        subst s3
        clear s4
        dsimp only at c3 d3 hrf hrg
        have Hsm : Hid (∀ d, Calls Try.prog 15 #[.slice Af fb.length cf, .slice Ag fb.length cg] (wr.drewN d) fun e w' => e = .returned (.bool true) ∧ ∃ m, w' = (wr.drewN d).drewN m) :=
          Lib.hid fun d => by have := same_q Af Ag _ cf _ cg fb fb (wr.drewN d) (drawn_keep hrf) (drawn_keep hrg) hfl; simpa using this
        go_wp2_with fail
        go_quiet (fail)
        go_wp2_with fail
        go_quiet ((go_at_call 15; exact quiet_add (Hsm.out _)))
        go_wp2_with fail
        go_quiet (fail)
        go_wp2_with fail
        go_roundw
        case rel => exact ⟨k + 1, by omega, by go_num, (by repeat (first | with_reducible exact Below.refl _ _ | with_reducible assumption | with_reducible refine ExtD ?_ | with_reducible refine ExtDN ?_ | with_reducible refine ExtA ?_ | (with_reducible refine ExtR ?_ ?_; (first | omega | (dsimp only; omega) | (simp; done) | (simp; omega))) | (with_reducible refine ExtS ?_ ?_; (first | omega | (dsimp only; omega) | (simp; done) | (simp; omega))) | with_reducible refine Ext.tr ?_ (by with_reducible assumption)))⟩
        case measure => simp [intOf]; omega
      | false =>
        have s4 := s4 rfl
        subst s4
        clear s3
        go_wp2_with fail
        go_quiet (fail)
        go_wp2_with fail
        go_quiet (fail)
        go_wp2_with fail
        go_quiet (fail)
        go_wp2_with fail
        go_roundw
        case rel => exact ⟨k + 1, by omega, by go_num, (by repeat (first | with_reducible exact Below.refl _ _ | with_reducible assumption | with_reducible refine ExtD ?_ | with_reducible refine ExtDN ?_ | with_reducible refine ExtA ?_ | (with_reducible refine ExtR ?_ ?_; (first | omega | (dsimp only; omega) | (simp; done) | (simp; omega))) | (with_reducible refine ExtS ?_ ?_; (first | omega | (dsimp only; omega) | (simp; done) | (simp; omega))) | with_reducible refine Ext.tr ?_ (by with_reducible assumption)))⟩
        case measure => simp [intOf]; omega
    · go_wp2_with fail
      go_ret
      exact ⟨rfl, hx⟩
set_option maxRecDepth 100000 in
set_option maxHeartbeats 2000000 in
theorem plain_yes (A B : Option Addr) (n c n2 c2 : Nat) (fs gs : List Fld) (w : World) (h1 : FsRd w A n fs) (h2 : FsRd w B n2 gs) (hn : n ≤ maxLen) (hs : fs.map strip = gs.map strip) (hl : ∀ f ∈ fs, f.bytes.length ≤ maxLen) (hp : ∀ f ∈ fs, f.plain) :
    Calls Try.prog 22 #[.slice A n c, .slice B n2 c2] w fun e w' => e = .returned (.bool true) ∧ Ext w w' := by
  have Hal : Hid (∀ w', Ext w w' → Calls Try.prog 18 #[.slice A n c, .slice B n2 c2] w' fun e w' => e = .returned (.bool true) ∧ Ext w w') :=
    Lib.hid fun w' hx => (alike_yes A B n c n2 c2 fs gs w' (h1.ext hx) (h2.ext hx) hn hs hl).mono fun e w'' ⟨h, h3⟩ => ⟨h, hx.tr h3⟩
  unfold maxLen at hn
  have Hp := Lib.hid hp
  clear hl hs hp
  go_enter Try.func22, Try.ntmps22
  go_wp2_with fail
  go_loopw [8] (fun i wr => AlikeR w n i wr) (fun i _ => n - (intOf i).toNat)
  case atStart => exact ⟨0, by omega, rfl, (by repeat (first | with_reducible exact Below.refl _ _ | with_reducible assumption | with_reducible refine ExtD ?_ | with_reducible refine ExtDN ?_ | with_reducible refine ExtA ?_ | (with_reducible refine ExtR ?_ ?_; (first | omega | (dsimp only; omega) | (simp; done) | (simp; omega))) | (with_reducible refine ExtS ?_ ?_; (first | omega | (dsimp only; omega) | (simp; done) | (simp; omega))) | with_reducible refine Ext.tr ?_ (by with_reducible assumption)))⟩
  case round =>
    obtain ⟨k, hk, rfl, hx⟩ := hrel
    by_cases hlt : k < n
    · obtain ⟨b, o, f, Af, cf, hfk, rfl, hc, hrf⟩ := fs_at (h1.ext hx) hlt
      obtain ⟨p1, p2⟩ := Hp.out f (List.mem_of_getElem? hfk)
      obtain ⟨ft, fx, fn, fb⟩ := f
      dsimp only at p1 p2
      have c0 := hc 0 _ rfl
      have c1 := hc 1 _ rfl
      have c2 := hc 2 _ rfl
      have c3 := hc 3 _ rfl
      simp only [Nat.add_zero] at c0
      clear hc hfk h1 h2
      cases fx with
      | true =>
        have p1 := p1 rfl
        subst p1
        clear p2
        go_wp2_with fail
        go_roundw
        case rel => exact ⟨k + 1, by omega, by go_num, (by repeat (first | with_reducible exact Below.refl _ _ | with_reducible assumption | with_reducible refine ExtD ?_ | with_reducible refine ExtDN ?_ | with_reducible refine ExtA ?_ | (with_reducible refine ExtR ?_ ?_; (first | omega | (dsimp only; omega) | (simp; done) | (simp; omega))) | (with_reducible refine ExtS ?_ ?_; (first | omega | (dsimp only; omega) | (simp; done) | (simp; omega))) | with_reducible refine Ext.tr ?_ (by with_reducible assumption)))⟩
        case measure => simp [intOf]; omega
      | false =>
        have p2 := p2 rfl
        subst p2
        clear p1
        go_wp2_with fail
        go_roundw
        case rel => exact ⟨k + 1, by omega, by go_num, (by repeat (first | with_reducible exact Below.refl _ _ | with_reducible assumption | with_reducible refine ExtD ?_ | with_reducible refine ExtDN ?_ | with_reducible refine ExtA ?_ | (with_reducible refine ExtR ?_ ?_; (first | omega | (dsimp only; omega) | (simp; done) | (simp; omega))) | (with_reducible refine ExtS ?_ ?_; (first | omega | (dsimp only; omega) | (simp; done) | (simp; omega))) | with_reducible refine Ext.tr ?_ (by with_reducible assumption)))⟩
        case measure => simp [intOf]; omega
    · go_wp2_with (go_at_call 18; go_must (with_reducible refine (Hal.out _ hx).mono ?_); rintro e w1 ⟨rfl, hx1⟩)
      go_ret
      exact ⟨rfl, hx1⟩
end Go.Proofs.Ytcekdfhbbfednaa
