/-
  The walks of the laws TlvDecodes, TlvBack, TlvOneForm.
-/
import Derived.Test.YtcekdfhbbfednaaTlvLawB
namespace Go.Proofs.Ytcekdfhbbfednaa
open Go.RowKit
set_option linter.unusedVariables false
set_option linter.unusedSimpArgs false
theorem own_max {w : World} {base : Nat} {e : TypeId} {s : Nat} {A : Option Addr} {n c : Nat} {xs : List Value} (h : w.ownsRow base e s (.slice A n c) n xs) : n ≤ c ∧ n ≤ maxLen := by
  rcases h.2 with ⟨hv, h0⟩ | ⟨g, cap, cur, hv, _, _, h1, h2, _⟩
  · subst h0; exact ⟨by omega, by unfold maxLen; omega⟩
  · injection hv with h3 h4 h5
    subst h5
    exact ⟨h1, by omega⟩
theorem OwnFs.max {w : World} {base : Nat} {A : Option Addr} {n c : Nat} {hs : List Held} (h : OwnFs w base A n c hs) : n ≤ maxLen := (own_max h.1).2
theorem dec_facts (l : List UInt8) : FWf (dec l).1 ∧ ∀ f ∈ (dec l).1, f.plain := by
  by_cases h : (dec l).2.2 = 0
  · obtain ⟨_, _, h3, h4, _⟩ := dec_inv h
    exact ⟨h3, h4⟩
  · have : (dec l).1 = [] := by
      rw [dec_eq] at h ⊢
      split
      · rfl
      · rename_i h1; rw [if_neg h1] at h; exact (decA_form l 0 0).1 h
    rw [this]
    exact ⟨(fun f hf => by cases hf), (fun f hf => by cases hf)⟩
theorem strip_tag (f : Fld) : strip (strip f) = strip f := by unfold strip; cases f.text <;> simp
theorem map_strip2 (fs : List Fld) : (fs.map strip).map strip = fs.map strip := by
  rw [List.map_map]
  exact List.map_congr_left fun f _ => strip_tag f
theorem strip_is_plain (f : Fld) : (strip f).plain := by unfold strip Fld.plain; cases f.text <;> simp
/-- Plain of what Decode answers, and fields that are alike. -/
theorem plain_own {w w' : World} {base : Nat} {A : Option Addr} {n c : Nat} {hs : List Held} {fs gs : List Fld} (h : OwnFs w base A n c hs) (hm : hs.map (·.1) = fs) (hx : Ext w w') (B : Option Addr) (n2 c2 : Nat) (h2 : FsRd w' B n2 gs) (hs2 : fs.map strip = gs.map strip) (hp : ∀ f ∈ fs, f.plain) :
    Calls Try.prog 22 #[.slice A n c, .slice B n2 c2] w' fun e w'' => e = .returned (.bool true) ∧ Ext w' w'' := by
  subst hm
  refine plain_yes A B n c n2 c2 _ gs w' (h.rd.ext hx) h2 (own_max h.1).2 hs2 (fun f hf => ?_) hp
  obtain ⟨g, hg, rfl⟩ := List.mem_map.1 hf
  exact (own_max (h.2 g hg)).2
set_option maxRecDepth 100000 in
set_option maxHeartbeats 2000000 in
theorem tlvDecodes_walk (A : Option Addr) (n c : Nat) (l : List UInt8) (w : World) (hr : Rd w A n (u8s l)) (hnc : n ≤ c) (hn : n ≤ 140737488351232) :
    Calls Try.prog 5 #[.slice A n c] w fun e w' => e = .returned (.bool true) ∧ Ext w w' := by
  have hl : l.length = n := by have := hr.1; rw [u8s_len] at this; exact this
  have K1 : Hid (∀ w', Ext w w' → Calls Try.prog 19 #[.slice A n c] w' (NewB w' l)) := Lib.hid fun w' hx => copy_any A n c l w' (hr.ext hx) (by omega)
  have K2 : Hid (∀ w', Ext w w' → Calls Try.prog 20 #[.slice A n c] w' (DecPost w' l)) := Lib.hid fun w' hx => rdec_any A n c l w' (hr.ext hx) hnc (by simp only [maxLen]; omega)
  obtain ⟨⟨D, P, E⟩, hD⟩ : ∃ x, x = dec l := ⟨_, rfl⟩
  have HD := Lib.hid hD
  have Hl := Lib.hid hl
  have Hr := Lib.hid hr
  have Hm : Hid (n ≤ maxLen) := Lib.hid (by simp only [maxLen]; omega)
  clear hl hr hD hn
  go_enter Try.func5, Try.ntmps5
  go_wp2_with (first
    | (go_at_call 16; go_must (with_reducible refine (head_any _).mono ?_); rintro e w0 ⟨rfl, hx0⟩)
    | (go_at_call 19; go_must (with_reducible refine (K1.out _ hx0).mono ?_); rintro e w1 ⟨A1, c1, rfl, hx1, hown1⟩; have Hown1 := Lib.hid hown1; clear hown1; rw [Hl.out])
    | (go_at_call 20; go_must (with_reducible refine (K2.out _ (hx0.tr hx1)).mono ?_); rintro e w2 ⟨A2, c2, hs2, rfl, hx2, hown2, hm2⟩; rw [← HD.out] at hown2 hm2 ⊢; have Hown2 := Lib.hid hown2; have Hm2 := Lib.hid hm2; clear hown2 hm2; dsimp only)
    | (go_at_call 21; go_must (with_reducible refine (tdec_any A1 n c1 l _ ((rd_own (by have := Hown1.out; rw [Hl.out] at this; exact this)).ext hx2) (by have := (own_max Hown1.out).1; rw [Hl.out] at this; exact this) Hm.out).mono ?_); rintro e w3 ⟨A3, c3, hs3, rfl, hx3, hown3, hm3⟩; rw [← HD.out] at hown3 hm3 ⊢; dsimp only at hown3 hm3; have Hown3 := Lib.hid hown3; have Hm3 := Lib.hid hm3; clear hown3 hm3; dsimp only)
    | (go_at_call 22; go_must (with_reducible refine (plain_own Hown3.out Hm3.out (Ext.rfl' _) A2 _ c2 (by have := Hown2.out.rd; rw [Hm2.out] at this; exact this.ext hx3) rfl (by have := (dec_facts l).2; rw [← HD.out] at this; exact this)).mono ?_); rintro e w4 ⟨rfl, hx4⟩)
    | (go_at_call 15; go_must (with_reducible refine (same_yes A1 A n c1 n c l _ ((rd_own (by have := Hown1.out; rw [Hl.out] at this; exact this)).ext (hx2.tr (hx3.tr hx4))) (Hr.out.ext (hx0.tr (hx1.tr (hx2.tr (hx3.tr hx4))))) Hm.out).mono ?_); rintro e w5 ⟨rfl, hx5⟩))
  go_ret
  exact ⟨rfl, (by repeat (first | with_reducible exact Below.refl _ _ | with_reducible assumption | with_reducible refine ExtD ?_ | with_reducible refine ExtDN ?_ | with_reducible refine ExtA ?_ | (with_reducible refine ExtR ?_ ?_; (first | omega | (dsimp only; omega) | (simp; done) | (simp; omega))) | (with_reducible refine ExtS ?_ ?_; (first | omega | (dsimp only; omega) | (simp; done) | (simp; omega))) | with_reducible refine Ext.tr ?_ (by with_reducible assumption)))⟩
set_option maxRecDepth 100000 in
set_option maxHeartbeats 2000000 in
theorem tlvBack_walk (A : Option Addr) (n c : Nat) (fs : List Fld) (w : World) (hr : FsRd w A n fs) (hw : FWf fs) (hn : n * 48 ≤ 140737488351232) (hb : ∀ f ∈ fs, f.bytes.length ≤ 140737488351232) :
    Calls Try.prog 6 #[.slice A n c] w fun e w' => e = .returned (.bool true) ∧ Ext w w' := by
  have hl := hr.len
  have K2 : Hid (∀ w', Ext w w' → Calls Try.prog 14 #[.slice A n c] w' (FCopPost w' fs)) := Lib.hid fun w' hx => fcopy_any A n c fs w' (hr.ext hx) (by omega) fun f hf => by have := hb f hf; omega
  have Hm : Hid (n ≤ maxLen) := Lib.hid (by simp only [maxLen]; omega)
  have Hr := Lib.hid hr
  have Hl := Lib.hid hl
  have Hw := Lib.hid hw
  clear hr hn hb hl
  by_cases h0 : encE fs = 0
  · have HE := Lib.hid h0
    obtain ⟨R, hR⟩ : ∃ R, R = encR fs := ⟨_, rfl⟩
    have HR := Lib.hid hR
    have HD : Hid (dec R = (fs.map strip, 0, 0)) := Lib.hid (by rw [hR]; exact dec_enc hw h0)
    have Hrm : Hid (R.length ≤ maxLen) := Lib.hid (by rw [hR]; have := encR_max fs; simp only [maxLen]; omega)
    clear hw h0 hR
    go_enter Try.func6, Try.ntmps6
    go_wp2_with (first
      | (go_at_call 16; go_must (with_reducible refine (head_any _).mono ?_); rintro e w0 ⟨rfl, hx0⟩)
      | (go_at_call 14; go_must (with_reducible refine (K2.out _ hx0).mono ?_); rintro e w3 ⟨A3, c3, hs3, rfl, hmap, hx3, hown3⟩; have Hmap := Lib.hid hmap; clear hmap; have hrd := OwnFs.rd hown3; rw [Hmap.out] at hrd; have Hrd := Lib.hid hrd; clear hrd; rw [Hl.out])
      | (go_at_call 17; (with_reducible refine (tenc_any A3 n c3 fs _ (by rw [← Hl.out]; exact Hrd.out) Hw.out Hm.out).mono ?_); rintro e w4 ⟨A4, c4, rfl, hx4, hown4⟩; rw [HE.out, ← HR.out]; rw [← HR.out] at hown4; have Hown4 := Lib.hid hown4; clear hown4)
      | (go_at_call 21; go_must (with_reducible refine (tdec_any A4 _ c4 R _ (rd_own Hown4.out) (own_max Hown4.out).1 Hrm.out).mono ?_); rintro e w5 ⟨A5, c5, hs5, rfl, hx5, hown5, hm5⟩; rw [HD.out] at hown5 hm5 ⊢; dsimp only at hown5 hm5; rw [List.length_map] at hown5; have Hown5 := Lib.hid hown5; have Hm5 := Lib.hid hm5; clear hown5 hm5; dsimp only)
      | (go_at_call 22; go_must (with_reducible refine (plain_own Hown5.out Hm5.out (Ext.rfl' _) A n c (Hr.out.ext (hx0.tr (hx3.tr (hx4.tr hx5)))) (map_strip2 fs) (fun f hf => by obtain ⟨g, _, rfl⟩ := List.mem_map.1 hf; exact strip_is_plain g)).mono ?_); rintro e w6 ⟨rfl, hx6⟩))
    go_ret
    exact ⟨rfl, (by repeat (first | with_reducible exact Below.refl _ _ | with_reducible assumption | with_reducible refine ExtD ?_ | with_reducible refine ExtDN ?_ | with_reducible refine ExtA ?_ | (with_reducible refine ExtR ?_ ?_; (first | omega | (dsimp only; omega) | (simp; done) | (simp; omega))) | (with_reducible refine ExtS ?_ ?_; (first | omega | (dsimp only; omega) | (simp; done) | (simp; omega))) | with_reducible refine Ext.tr ?_ (by with_reducible assumption)))⟩
  · have hR : encR fs = [] := by unfold encR; rw [if_neg h0]
    have HR := Lib.hid hR
    obtain ⟨E, hE⟩ : ∃ E, E = encE fs := ⟨_, rfl⟩
    have HE := Lib.hid hE
    have t0 : ((E : Int) != 0) = true := by simp; rw [hE]; exact h0
    clear hw h0 hR hE
    go_enter Try.func6, Try.ntmps6
    go_wp2_with (first
      | (go_at_call 16; go_must (with_reducible refine (head_any _).mono ?_); rintro e w0 ⟨rfl, hx0⟩)
      | (go_at_call 14; go_must (with_reducible refine (K2.out _ hx0).mono ?_); rintro e w3 ⟨A3, c3, hs3, rfl, hmap, hx3, hown3⟩; have Hmap := Lib.hid hmap; clear hmap; have hrd := OwnFs.rd hown3; rw [Hmap.out] at hrd; have Hrd := Lib.hid hrd; clear hrd; rw [Hl.out])
      | (go_at_call 17; (with_reducible refine (tenc_any A3 n c3 fs _ (by rw [← Hl.out]; exact Hrd.out) Hw.out Hm.out).mono ?_); rintro e w4 ⟨A4, c4, rfl, hx4, hown4⟩; rw [← HE.out, HR.out]; clear hown4; dsimp only [List.length_nil]))
    go_ret
    exact ⟨rfl, (by repeat (first | with_reducible exact Below.refl _ _ | with_reducible assumption | with_reducible refine ExtD ?_ | with_reducible refine ExtDN ?_ | with_reducible refine ExtA ?_ | (with_reducible refine ExtR ?_ ?_; (first | omega | (dsimp only; omega) | (simp; done) | (simp; omega))) | (with_reducible refine ExtS ?_ ?_; (first | omega | (dsimp only; omega) | (simp; done) | (simp; omega))) | with_reducible refine Ext.tr ?_ (by with_reducible assumption)))⟩
set_option maxRecDepth 100000 in
set_option maxHeartbeats 2000000 in
theorem tlvOneForm_walk (A : Option Addr) (n c : Nat) (l : List UInt8) (w : World) (hr : Rd w A n (u8s l)) (hnc : n ≤ c) (hn : n ≤ 140737488351232) :
    Calls Try.prog 7 #[.slice A n c] w fun e w' => e = .returned (.bool true) ∧ Ext w w' := by
  have hl : l.length = n := by have := hr.1; rw [u8s_len] at this; exact this
  have K1 : Hid (∀ w', Ext w w' → Calls Try.prog 19 #[.slice A n c] w' (NewB w' l)) := Lib.hid fun w' hx => copy_any A n c l w' (hr.ext hx) (by omega)
  obtain ⟨⟨D, P, E⟩, hD⟩ : ∃ x, x = dec l := ⟨_, rfl⟩
  have HD := Lib.hid hD
  have Hl := Lib.hid hl
  have Hr := Lib.hid hr
  have Hm : Hid (n ≤ maxLen) := Lib.hid (by simp only [maxLen]; omega)
  have hP : P ≤ n := by have := dec_place l; rw [← hD] at this; rw [← hl]; exact this
  clear hr hn
  by_cases hE : E = 0
  · subst hE
    have hi := dec_inv (b := l) (by rw [← hD])
    rw [← hD] at hi
    dsimp only at hi
    have Hi := Lib.hid hi
    clear hi hD hl
    go_enter Try.func7, Try.ntmps7
    go_wp2_with (first
      | (go_at_call 16; go_must (with_reducible refine (head_any _).mono ?_); rintro e w0 ⟨rfl, hx0⟩)
      | (go_at_call 19; go_must (with_reducible refine (K1.out _ hx0).mono ?_); rintro e w1 ⟨A1, c1, rfl, hx1, hown1⟩; have Hown1 := Lib.hid hown1; clear hown1; rw [Hl.out])
      | (go_at_call 21; go_must (with_reducible refine (tdec_any A1 n c1 l _ (rd_own (by have := Hown1.out; rw [Hl.out] at this; exact this)) (by have := (own_max Hown1.out).1; rw [Hl.out] at this; exact this) Hm.out).mono ?_); rintro e w3 ⟨A3, c3, hs3, rfl, hx3, hown3, hm3⟩; rw [← HD.out] at hown3 hm3 ⊢; dsimp only at hown3 hm3; have Hown3 := Lib.hid hown3; have Hm3 := Lib.hid hm3; clear hown3 hm3; dsimp only)
      | (go_at_call 17; go_must (with_reducible refine (tenc_any A3 _ c3 D _ (by have := Hown3.out.rd; rw [Hm3.out] at this; exact this) Hi.out.2.2.1 (OwnFs.max Hown3.out)).mono ?_); go_must (rintro e w4 ⟨A4, c4, rfl, hx4, hown4⟩); go_must (rw [Hi.out.1, Hi.out.2.1]); go_must (rw [Hi.out.1, Hl.out] at hown4); have Hown4 := Lib.hid hown4; clear hown4; rw [Hl.out])
      | (go_at_call 15; go_must (with_reducible refine (same_yes A4 A n c4 n c l _ (rd_own Hown4.out) (Hr.out.ext (hx0.tr (hx1.tr (hx3.tr hx4)))) Hm.out).mono ?_); rintro e w5 ⟨rfl, hx5⟩))
    go_ret
    exact ⟨rfl, (by repeat (first | with_reducible exact Below.refl _ _ | with_reducible assumption | with_reducible refine ExtD ?_ | with_reducible refine ExtDN ?_ | with_reducible refine ExtA ?_ | (with_reducible refine ExtR ?_ ?_; (first | omega | (dsimp only; omega) | (simp; done) | (simp; omega))) | (with_reducible refine ExtS ?_ ?_; (first | omega | (dsimp only; omega) | (simp; done) | (simp; omega))) | with_reducible refine Ext.tr ?_ (by with_reducible assumption)))⟩
  · have t0 : ((E : Int) != 0) = true := by simp; exact hE
    have hDn : D = [] := by
      have h1 : (dec l).2.2 ≠ 0 := by rw [← hD]; exact hE
      have : (dec l).1 = [] := by
        rw [dec_eq] at h1 ⊢
        split
        · rfl
        · rename_i h2; rw [if_neg h2] at h1; exact (decA_form l 0 0).1 h1
      rw [← hD] at this
      exact this
    subst hDn
    clear hD hl hE
    go_enter Try.func7, Try.ntmps7
    go_wp2_with (first
      | (go_at_call 16; go_must (with_reducible refine (head_any _).mono ?_); rintro e w0 ⟨rfl, hx0⟩)
      | (go_at_call 19; go_must (with_reducible refine (K1.out _ hx0).mono ?_); rintro e w1 ⟨A1, c1, rfl, hx1, hown1⟩; have Hown1 := Lib.hid hown1; clear hown1; rw [Hl.out])
      | (go_at_call 21; go_must (with_reducible refine (tdec_any A1 n c1 l _ (rd_own (by have := Hown1.out; rw [Hl.out] at this; exact this)) (by have := (own_max Hown1.out).1; rw [Hl.out] at this; exact this) Hm.out).mono ?_); go_must (rintro e w3 ⟨A3, c3, hs3, rfl, hx3, hown3, hm3⟩); go_must (rw [← HD.out] at hm3); go_must (rw [← HD.out] at hown3); go_must (rw [← HD.out]); have Hown3 := Lib.hid hown3; have Hm3 := Lib.hid hm3; clear hown3 hm3; go_must (dsimp only [List.length_nil])))
    go_ret
    exact ⟨rfl, (by repeat (first | with_reducible exact Below.refl _ _ | with_reducible assumption | with_reducible refine ExtD ?_ | with_reducible refine ExtDN ?_ | with_reducible refine ExtA ?_ | (with_reducible refine ExtR ?_ ?_; (first | omega | (dsimp only; omega) | (simp; done) | (simp; omega))) | (with_reducible refine ExtS ?_ ?_; (first | omega | (dsimp only; omega) | (simp; done) | (simp; omega))) | with_reducible refine Ext.tr ?_ (by with_reducible assumption)))⟩
end Go.Proofs.Ytcekdfhbbfednaa
