/-
  The walk of the law TlvPieces.
-/
import Derived.Test.YtcekdfhbbfednaaTlvLawC
namespace Go.Proofs.Ytcekdfhbbfednaa
open Go.RowKit
set_option linter.unusedVariables false
set_option linter.unusedSimpArgs false
theorem rdn_take {w : World} {A : Option Addr} {n k : Nat} {hs : List Held} (h : RdN w 4 A n (fsCells hs)) (hk : k ≤ n) : RdN w 4 A k (fsCells (hs.take k)) := by
  have hl : hs.length = n := by have := h.1; rw [fsCells_len] at this; omega
  refine ⟨by rw [fsCells_len]; simp; omega, fun h0 => ?_⟩
  obtain ⟨b, o, e, hc⟩ := h.2 (by omega)
  refine ⟨b, o, e, fun j u hu => hc j u ?_⟩
  have e2 : fsCells hs = fsCells (hs.take k) ++ fsCells (hs.drop k) := by rw [← fsCells_app, List.take_append_drop]
  rw [e2, List.getElem?_append_left (List.getElem?_eq_some_iff.1 hu).1]
  exact hu
theorem fs_take {w : World} {A : Option Addr} {n k : Nat} {fs : List Fld} (h : FsRd w A n fs) (hk : k ≤ n) : FsRd w A k (fs.take k) := by
  obtain ⟨hs, rfl, h1, h2⟩ := h
  exact ⟨hs.take k, List.map_take, rdn_take h1 hk, fun g hg => h2 g (List.mem_of_mem_take hg)⟩
theorem size_fld (w : World) : (sizeOf (Try.prog.elem 22)).run Try.prog w = .ok 4 w := by kernel_rfl
theorem elem_fld : Try.prog.underlying 22 = some (.slice (Try.prog.elem 22)) := by kernel_rfl
/-- 'fs[:k]'. -/
theorem fslice_hi (A : Option Addr) (n c k : Nat) (h : k ≤ n) (hc : n ≤ c) (W : World) : (Instr.slice 22 (.slice A n c) none (some (.int .i64 (k : Nat))) none).run Try.prog W = .ok (.slice A k c) W := by
  rw [run_slice_h W 22 A n c elem_fld .i64 k (by omega) (by omega), size_fld, Result.andThen_ok]
  cases A <;> simp [sliced, Addr.add]
/-- 'fs[k:]'. -/
theorem fslice_lo (A : Option Addr) (n c i : Nat) (h : i ≤ n) (hc : n ≤ c) :
    ∃ A', (∀ W : World, (Instr.slice 22 (.slice A n c) (some (.int .i64 (i : Nat))) none none).run Try.prog W = .ok (.slice A' (n - i) (c - i)) W) ∧ ∀ (W : World) (l : List Fld), FsRd W A n l → FsRd W A' (n - i) (l.drop i) := by
  refine ⟨if c = i then A else A.map (·.add (i * 4)), fun W => ?_, fun W l hr => ?_⟩
  · rw [run_slice_l W 22 A n c elem_fld .i64 i (by omega) (by omega), size_fld, Result.andThen_ok]
    simp [sliced]
  · have hl := hr.len
    obtain ⟨hs, rfl, h1, h2⟩ := hr
    refine ⟨hs.drop i, List.map_drop, ⟨by rw [fsCells_len]; simp at hl ⊢; omega, fun h0 => ?_⟩, fun g hg => h2 g (List.mem_of_mem_drop hg)⟩
    obtain ⟨b, o, rfl, hcell⟩ := h1.2 (by omega)
    rw [if_neg (by omega)]
    have ha : (⟨b, o, none⟩ : Addr).add (i * 4) = ⟨b, o + i * 4, none⟩ := by
      by_cases h : i * 4 = 0
      · simp [Addr.add, h]
      · simp only [Addr.add, h, if_false]
    refine ⟨b, o + i * 4, by simp [ha], fun j u hu => ?_⟩
    rw [Nat.add_assoc]
    refine hcell _ u ?_
    have e2 : fsCells hs = fsCells (hs.take i) ++ fsCells (hs.drop i) := by rw [← fsCells_app, List.take_append_drop]
    have e3 : (fsCells (hs.take i)).length = i * 4 := by rw [fsCells_len]; simp at hl ⊢; omega
    rw [e2, List.getElem?_append_right (by omega), e3, Nat.add_sub_cancel_left]
    exact hu
theorem alike_own {w' : World} {A : Option Addr} {n c : Nat} {fs gs : List Fld} (h : FsRd w' A n fs) (hn : n ≤ maxLen) (hb : ∀ f ∈ fs, f.bytes.length ≤ maxLen) (B : Option Addr) (n2 c2 : Nat) (h2 : FsRd w' B n2 gs) (hs2 : fs.map strip = gs.map strip) :
    Calls Try.prog 18 #[.slice A n c, .slice B n2 c2] w' fun e w'' => e = .returned (.bool true) ∧ Ext w' w'' :=
  alike_yes A B n c n2 c2 fs gs w' h h2 hn hs2 hb
theorem OwnFs.small {w : World} {base : Nat} {A : Option Addr} {n c : Nat} {hs : List Held} (h : OwnFs w base A n c hs) : ∀ f ∈ hs.map (·.1), f.bytes.length ≤ maxLen := fun f hf => by
  obtain ⟨g, hg, rfl⟩ := List.mem_map.1 hf
  exact (own_max (h.2 g hg)).2
theorem OwnFs.form {w : World} {base : Nat} {A : Option Addr} {n c : Nat} {hs : List Held} (h : OwnFs w base A n c hs) (hn : 0 < n) : ∃ g, A = some ⟨g, 0, none⟩ := by
  rcases h.1.2 with ⟨_, h0⟩ | ⟨g, cap, cur, hv, _⟩
  · omega
  · injection hv with h1
    exact ⟨g, h1⟩
theorem last_cell {w : World} {g n p : Nat} {X : List Fld} {T : Int} (h : FsRd w (some ⟨g, 0, none⟩) n X) (hp : n = p + 1 ∧ lastT X = T) : w.cell? ⟨g, p * 4, none⟩ = some (.int .i64 T) := by
  obtain ⟨rfl, hT⟩ := hp
  obtain ⟨b, o, f, Af, cf, hf, hA, hc, _⟩ := fs_at h (k := p) (by omega)
  injection hA with hA
  injection hA with h4 h5
  subst h4 h5
  have h6 := hc 0 _ rfl
  have hl := h.len
  have : lastT X = f.tag := by
    have e : X = X.take p ++ [f] := by
      have := List.take_add_one (l := X) (i := p)
      rw [hf, List.take_of_length_le (by omega)] at this
      exact this
    rw [e, lastT_snoc]
  rw [← hT, this]
  simpa using h6
theorem first_cell {w : World} {g n : Nat} {Y : List Fld} {T : Int} (h : FsRd w (some ⟨g, 0, none⟩) n Y) (hp : ∃ f r, Y = f :: r ∧ f.tag = T) : w.cell? ⟨g, 0, none⟩ = some (.int .i64 T) := by
  obtain ⟨f, r, rfl, hT⟩ := hp
  have hl := h.len
  obtain ⟨b, o, f2, Af, cf, hf, hA, hc, _⟩ := fs_at h (k := 0) (by simp at hl; omega)
  injection hA with hA
  injection hA with h4 h5
  subst h4 h5
  simp at hf
  subst hf
  have h6 := hc 0 _ rfl
  rw [← hT]
  simpa using h6
set_option maxRecDepth 100000 in
set_option maxHeartbeats 4000000 in
theorem tlvPieces_walk (A : Option Addr) (n c : Nat) (la : List UInt8) (B : Option Addr) (n2 cb : Nat) (lb : List UInt8) (w : World) (hra : Rd w A n (u8s la)) (hnca : n ≤ c) (hna : n ≤ 140737488351232) (hrb : Rd w B n2 (u8s lb)) (hncb : n2 ≤ cb) (hnb : n2 ≤ 140737488351232) :
    Calls Try.prog 8 #[.slice A n c, .slice B n2 cb] w fun e w' => e = .returned (.bool true) ∧ Ext w w' := by
  have hla : la.length = n := by have := hra.1; rw [u8s_len] at this; exact this
  have hlb : lb.length = n2 := by have := hrb.1; rw [u8s_len] at this; exact this
  have Ka : Hid (∀ w', Ext w w' → Calls Try.prog 19 #[.slice A n c] w' (NewB w' la)) := Lib.hid fun w' hx => copy_any A n c la w' (hra.ext hx) (by omega)
  have Kb : Hid (∀ w', Ext w w' → Calls Try.prog 19 #[.slice B n2 cb] w' (NewB w' lb)) := Lib.hid fun w' hx => copy_any B n2 cb lb w' (hrb.ext hx) (by omega)
  obtain ⟨⟨X, P1, E1⟩, hD1⟩ : ∃ x, x = dec la := ⟨_, rfl⟩
  obtain ⟨⟨Y, P2, E2⟩, hD2⟩ : ∃ x, x = dec lb := ⟨_, rfl⟩
  obtain ⟨nx, hnx⟩ : ∃ x, X.length = x := ⟨_, rfl⟩
  obtain ⟨ny, hny⟩ : ∃ x, Y.length = x := ⟨_, rfl⟩
  have HD1 := Lib.hid hD1
  have HD2 := Lib.hid hD2
  have Hnx := Lib.hid hnx
  have Hny := Lib.hid hny
  have Hla := Lib.hid hla
  have Hlb := Lib.hid hlb
  have Hrb := Lib.hid hrb
  have Hma : Hid (n ≤ maxLen) := Lib.hid (by simp only [maxLen]; omega)
  have Hmb : Hid (n2 ≤ maxLen) := Lib.hid (by simp only [maxLen]; omega)
  clear hra hrb
  by_cases h1 : E1 = 0
  rotate_left
  · have t1 : ((E1 : Int) != 0) = true := by simp; exact h1
    clear h1 hD1 hD2 hnx hny hla hlb hna hnb
    go_enter Try.func8, Try.ntmps8
    go_wp2_with (first | (go_at_call 16; go_must (with_reducible refine (head_any _).mono ?_); rintro e w0 ⟨rfl, hx0⟩) | (go_at_call 19; (with_reducible refine (Ka.out _ hx0).mono ?_); rintro e w1 ⟨A1, c1, rfl, hx1, hown1⟩; rw [Hla.out] at hown1 ⊢; have Hown1 := Lib.hid hown1; clear hown1) | (go_at_call 21; (with_reducible refine (tdec_any A1 n c1 la _ (rd_own Hown1.out) (own_max Hown1.out).1 Hma.out).mono ?_); rintro e w2 ⟨A2, c2, hs2, rfl, hx2, hown2, hm2⟩; rw [← HD1.out] at hown2 hm2 ⊢; dsimp only at hown2 hm2; rw [Hnx.out] at hown2; dsimp only; rw [Hnx.out]; have Hown2 := Lib.hid hown2; have Hm2 := Lib.hid hm2; clear hown2 hm2) | (go_at_call 19; (with_reducible refine (Kb.out _ (hx0.tr (hx1.tr hx2))).mono ?_); rintro e w3 ⟨A3, c3, rfl, hx3, hown3⟩; rw [Hlb.out] at hown3 ⊢; have Hown3 := Lib.hid hown3; clear hown3) | (go_at_call 21; (with_reducible refine (tdec_any A3 n2 c3 lb _ (rd_own Hown3.out) (own_max Hown3.out).1 Hmb.out).mono ?_); rintro e w4 ⟨A4, c4, hs4, rfl, hx4, hown4, hm4⟩; rw [← HD2.out] at hown4 hm4 ⊢; dsimp only at hown4 hm4; rw [Hny.out] at hown4; dsimp only; rw [Hny.out]; have Hown4 := Lib.hid hown4; have Hm4 := Lib.hid hm4; clear hown4 hm4))
    go_ret
    exact ⟨rfl, (by repeat (first | with_reducible exact Below.refl _ _ | with_reducible assumption | with_reducible refine ExtD ?_ | with_reducible refine ExtDN ?_ | with_reducible refine ExtA ?_ | (with_reducible refine ExtR ?_ ?_; (first | omega | (dsimp only; omega) | (simp; done) | (simp; omega))) | (with_reducible refine ExtS ?_ ?_; (first | omega | (dsimp only; omega) | (simp; done) | (simp; omega))) | with_reducible refine Ext.tr ?_ (by with_reducible assumption)))⟩
  subst h1
  by_cases h2 : E2 = 0
  rotate_left
  · have t1 : ((E2 : Int) != 0) = true := by simp; exact h2
    clear h2 hD1 hD2 hnx hny hla hlb hna hnb
    go_enter Try.func8, Try.ntmps8
    go_wp2_with (first | (go_at_call 16; go_must (with_reducible refine (head_any _).mono ?_); rintro e w0 ⟨rfl, hx0⟩) | (go_at_call 19; (with_reducible refine (Ka.out _ hx0).mono ?_); rintro e w1 ⟨A1, c1, rfl, hx1, hown1⟩; rw [Hla.out] at hown1 ⊢; have Hown1 := Lib.hid hown1; clear hown1) | (go_at_call 21; (with_reducible refine (tdec_any A1 n c1 la _ (rd_own Hown1.out) (own_max Hown1.out).1 Hma.out).mono ?_); rintro e w2 ⟨A2, c2, hs2, rfl, hx2, hown2, hm2⟩; rw [← HD1.out] at hown2 hm2 ⊢; dsimp only at hown2 hm2; rw [Hnx.out] at hown2; dsimp only; rw [Hnx.out]; have Hown2 := Lib.hid hown2; have Hm2 := Lib.hid hm2; clear hown2 hm2) | (go_at_call 19; (with_reducible refine (Kb.out _ (hx0.tr (hx1.tr hx2))).mono ?_); rintro e w3 ⟨A3, c3, rfl, hx3, hown3⟩; rw [Hlb.out] at hown3 ⊢; have Hown3 := Lib.hid hown3; clear hown3) | (go_at_call 21; (with_reducible refine (tdec_any A3 n2 c3 lb _ (rd_own Hown3.out) (own_max Hown3.out).1 Hmb.out).mono ?_); rintro e w4 ⟨A4, c4, hs4, rfl, hx4, hown4, hm4⟩; rw [← HD2.out] at hown4 hm4 ⊢; dsimp only at hown4 hm4; rw [Hny.out] at hown4; dsimp only; rw [Hny.out]; have Hown4 := Lib.hid hown4; have Hm4 := Lib.hid hm4; clear hown4 hm4))
    go_ret
    exact ⟨rfl, (by repeat (first | with_reducible exact Below.refl _ _ | with_reducible assumption | with_reducible refine ExtD ?_ | with_reducible refine ExtDN ?_ | with_reducible refine ExtA ?_ | (with_reducible refine ExtR ?_ ?_; (first | omega | (dsimp only; omega) | (simp; done) | (simp; omega))) | (with_reducible refine ExtS ?_ ?_; (first | omega | (dsimp only; omega) | (simp; done) | (simp; omega))) | with_reducible refine Ext.tr ?_ (by with_reducible assumption)))⟩
  subst h2
  by_cases h3 : nx = 0
  · subst h3
    clear hD1 hD2 hnx hny hla hlb hna hnb
    go_enter Try.func8, Try.ntmps8
    go_wp2_with (first | (go_at_call 16; go_must (with_reducible refine (head_any _).mono ?_); rintro e w0 ⟨rfl, hx0⟩) | (go_at_call 19; (with_reducible refine (Ka.out _ hx0).mono ?_); rintro e w1 ⟨A1, c1, rfl, hx1, hown1⟩; rw [Hla.out] at hown1 ⊢; have Hown1 := Lib.hid hown1; clear hown1) | (go_at_call 21; (with_reducible refine (tdec_any A1 n c1 la _ (rd_own Hown1.out) (own_max Hown1.out).1 Hma.out).mono ?_); rintro e w2 ⟨A2, c2, hs2, rfl, hx2, hown2, hm2⟩; rw [← HD1.out] at hown2 hm2 ⊢; dsimp only at hown2 hm2; rw [Hnx.out] at hown2; dsimp only; rw [Hnx.out]; have Hown2 := Lib.hid hown2; have Hm2 := Lib.hid hm2; clear hown2 hm2) | (go_at_call 19; (with_reducible refine (Kb.out _ (hx0.tr (hx1.tr hx2))).mono ?_); rintro e w3 ⟨A3, c3, rfl, hx3, hown3⟩; rw [Hlb.out] at hown3 ⊢; have Hown3 := Lib.hid hown3; clear hown3) | (go_at_call 21; (with_reducible refine (tdec_any A3 n2 c3 lb _ (rd_own Hown3.out) (own_max Hown3.out).1 Hmb.out).mono ?_); rintro e w4 ⟨A4, c4, hs4, rfl, hx4, hown4, hm4⟩; rw [← HD2.out] at hown4 hm4 ⊢; dsimp only at hown4 hm4; rw [Hny.out] at hown4; dsimp only; rw [Hny.out]; have Hown4 := Lib.hid hown4; have Hm4 := Lib.hid hm4; clear hown4 hm4))
    go_ret
    exact ⟨rfl, (by repeat (first | with_reducible exact Below.refl _ _ | with_reducible assumption | with_reducible refine ExtD ?_ | with_reducible refine ExtDN ?_ | with_reducible refine ExtA ?_ | (with_reducible refine ExtR ?_ ?_; (first | omega | (dsimp only; omega) | (simp; done) | (simp; omega))) | (with_reducible refine ExtS ?_ ?_; (first | omega | (dsimp only; omega) | (simp; done) | (simp; omega))) | with_reducible refine Ext.tr ?_ (by with_reducible assumption)))⟩
  have t3 : ((nx : Int) == 0) = false := by simp; exact h3
  by_cases h4 : ny = 0
  · subst h4
    clear h3 hD1 hD2 hnx hny hla hlb hna hnb
    go_enter Try.func8, Try.ntmps8
    go_wp2_with (first | (go_at_call 16; go_must (with_reducible refine (head_any _).mono ?_); rintro e w0 ⟨rfl, hx0⟩) | (go_at_call 19; (with_reducible refine (Ka.out _ hx0).mono ?_); rintro e w1 ⟨A1, c1, rfl, hx1, hown1⟩; rw [Hla.out] at hown1 ⊢; have Hown1 := Lib.hid hown1; clear hown1) | (go_at_call 21; (with_reducible refine (tdec_any A1 n c1 la _ (rd_own Hown1.out) (own_max Hown1.out).1 Hma.out).mono ?_); rintro e w2 ⟨A2, c2, hs2, rfl, hx2, hown2, hm2⟩; rw [← HD1.out] at hown2 hm2 ⊢; dsimp only at hown2 hm2; rw [Hnx.out] at hown2; dsimp only; rw [Hnx.out]; have Hown2 := Lib.hid hown2; have Hm2 := Lib.hid hm2; clear hown2 hm2) | (go_at_call 19; (with_reducible refine (Kb.out _ (hx0.tr (hx1.tr hx2))).mono ?_); rintro e w3 ⟨A3, c3, rfl, hx3, hown3⟩; rw [Hlb.out] at hown3 ⊢; have Hown3 := Lib.hid hown3; clear hown3) | (go_at_call 21; (with_reducible refine (tdec_any A3 n2 c3 lb _ (rd_own Hown3.out) (own_max Hown3.out).1 Hmb.out).mono ?_); rintro e w4 ⟨A4, c4, hs4, rfl, hx4, hown4, hm4⟩; rw [← HD2.out] at hown4 hm4 ⊢; dsimp only at hown4 hm4; rw [Hny.out] at hown4; dsimp only; rw [Hny.out]; have Hown4 := Lib.hid hown4; have Hm4 := Lib.hid hm4; clear hown4 hm4))
    go_ret
    exact ⟨rfl, (by repeat (first | with_reducible exact Below.refl _ _ | with_reducible assumption | with_reducible refine ExtD ?_ | with_reducible refine ExtDN ?_ | with_reducible refine ExtA ?_ | (with_reducible refine ExtR ?_ ?_; (first | omega | (dsimp only; omega) | (simp; done) | (simp; omega))) | (with_reducible refine ExtS ?_ ?_; (first | omega | (dsimp only; omega) | (simp; done) | (simp; omega))) | with_reducible refine Ext.tr ?_ (by with_reducible assumption)))⟩
  have t4 : ((ny : Int) == 0) = false := by simp; exact h4
  have hi1 := dec_inv (b := la) (by rw [← hD1])
  have hi2 := dec_inv (b := lb) (by rw [← hD2])
  rw [← hD1] at hi1
  rw [← hD2] at hi2
  dsimp only at hi1 hi2
  have hla1 : la.length ≤ 1024 := hi1.2.2.2.2.2.2.2
  have hlb1 : lb.length ≤ 1024 := hi2.2.2.2.2.2.2.2
  have H1024 : Hid (la.length ≤ 1024 ∧ lb.length ≤ 1024) := Lib.hid ⟨hla1, hlb1⟩
  obtain ⟨f, r, hfr⟩ : ∃ f r, Y = f :: r := by
    cases Y with
    | nil => simp at hny; omega
    | cons f r => exact ⟨f, r, rfl⟩
  have hXn : X ≠ [] := by rintro rfl; simp at hnx; omega
  have hZ := dec_pieces (a := la) (b := lb) (by rw [← hD1]) (by rw [← hD2]) f r (by rw [← hD2]; exact hfr) (by rw [← hD1]; exact hXn)
  rw [← hD1, ← hD2] at hZ
  dsimp only at hZ
  have hn1 : n ≤ 1024 := by omega
  have hn2 : n2 ≤ 1024 := by omega
  by_cases hbig : 1024 < la.length + lb.length
  · rw [if_pos hbig] at hZ
    have HZ := Lib.hid hZ
    have hb2 : 1024 < n + n2 := by omega
    clear hZ h3 h4 hD1 hD2 hnx hny hla hlb hna hnb hi1 hi2 hla1 hlb1 hfr hXn hbig
    go_enter Try.func8, Try.ntmps8
    go_wp2_with (first | (go_at_call 16; go_must (with_reducible refine (head_any _).mono ?_); rintro e w0 ⟨rfl, hx0⟩) | (go_at_call 19; (with_reducible refine (Ka.out _ hx0).mono ?_); rintro e w1 ⟨A1, c1, rfl, hx1, hown1⟩; rw [Hla.out] at hown1 ⊢; have Hown1 := Lib.hid hown1; clear hown1) | (go_at_call 21; (with_reducible refine (tdec_any A1 n c1 la _ (rd_own Hown1.out) (own_max Hown1.out).1 Hma.out).mono ?_); rintro e w2 ⟨A2, c2, hs2, rfl, hx2, hown2, hm2⟩; rw [← HD1.out] at hown2 hm2 ⊢; dsimp only at hown2 hm2; rw [Hnx.out] at hown2; dsimp only; rw [Hnx.out]; have Hown2 := Lib.hid hown2; have Hm2 := Lib.hid hm2; clear hown2 hm2) | (go_at_call 19; (with_reducible refine (Kb.out _ (hx0.tr (hx1.tr hx2))).mono ?_); rintro e w3 ⟨A3, c3, rfl, hx3, hown3⟩; rw [Hlb.out] at hown3 ⊢; have Hown3 := Lib.hid hown3; clear hown3) | (go_at_call 21; (with_reducible refine (tdec_any A3 n2 c3 lb _ (rd_own Hown3.out) (own_max Hown3.out).1 Hmb.out).mono ?_); rintro e w4 ⟨A4, c4, hs4, rfl, hx4, hown4, hm4⟩; rw [← HD2.out] at hown4 hm4 ⊢; dsimp only at hown4 hm4; rw [Hny.out] at hown4; dsimp only; rw [Hny.out]; have Hown4 := Lib.hid hown4; have Hm4 := Lib.hid hm4; clear hown4 hm4) | (go_at_call 19; (with_reducible refine (Ka.out _ (hx0.tr (hx1.tr (hx2.tr (hx3.tr hx4))))).mono ?_); rintro e w5 ⟨A5, c5, rfl, hx5, hown5⟩; rw [Hla.out] at hown5 ⊢; have Hown5 := Lib.hid hown5; clear hown5) | (at_builtin; refine wpB_append rfl (.tmp 48) (.tmp 49) rfl w4 rfl Hown5.out hx5 rfl (Hrb.out.ext (hx0.tr (hx1.tr (hx2.tr (hx3.tr (hx4.tr hx5)))))) (by have := H1024.out; omega) ?_; intro A6 n6 c6 w6 hx6 hn6 hown6 hk6 hg6; have Hown6 := Lib.hid hown6; clear hown6 hk6 hg6) | (go_at_call 21; (with_reducible refine (tdec_any A6 n6 c6 (la ++ lb) _ (rd_own Hown6.out) (own_max Hown6.out).1 (own_max Hown6.out).2).mono ?_); rintro e w7 ⟨A7, c7, hs7, rfl, hx7, hown7, hm7⟩; rw [HZ.out] at hown7 hm7 ⊢; dsimp only at hown7 hm7; dsimp only; have Hown7 := Lib.hid hown7; have Hm7 := Lib.hid hm7; clear hown7 hm7))
    go_ret
    exact ⟨rfl, (by repeat (first | with_reducible exact Below.refl _ _ | with_reducible assumption | with_reducible refine ExtD ?_ | with_reducible refine ExtDN ?_ | with_reducible refine ExtA ?_ | (with_reducible refine ExtR ?_ ?_; (first | omega | (dsimp only; omega) | (simp; done) | (simp; omega))) | (with_reducible refine ExtS ?_ ?_; (first | omega | (dsimp only; omega) | (simp; done) | (simp; omega))) | with_reducible refine Ext.tr ?_ (by with_reducible assumption)))⟩
  rw [if_neg hbig] at hZ
  have hb2 : ¬ 1024 < n + n2 := by omega
  obtain ⟨px, hpx⟩ : ∃ px, nx = px + 1 := ⟨nx - 1, by omega⟩
  obtain ⟨T1, hT1⟩ : ∃ T1, lastT X = T1 := ⟨_, rfl⟩
  obtain ⟨T2, hT2⟩ : ∃ T2, f.tag = T2 := ⟨_, rfl⟩
  have HX : Hid (nx = px + 1 ∧ lastT X = T1) := Lib.hid ⟨hpx, hT1⟩
  have HY : Hid (∃ f r, Y = f :: r ∧ f.tag = T2) := Lib.hid ⟨f, r, hfr, hT2⟩
  have hp0 : (0 : Int) ≤ (px : Int) := by omega
  have hp1 : (px : Int) < (nx : Int) := by omega
  have hy1 : (0 : Int) < (ny : Int) := by omega
  have R1 : IntKind.i64.wrap ((nx : Int) - 1) = (px : Int) := by rw [IntKind.wrap_i64]; have := (faults_bound X hi1.2.2.1 hi1.2.2.2.2.2.2.1).1; have := (faults_bound X hi1.2.2.1 hi1.2.2.2.2.2.2.1).2.1; omega
  rw [hT1, hT2] at hZ
  by_cases hord : T2 ≤ T1
  · rw [if_pos hord, hla] at hZ
    have HZ := Lib.hid hZ
    clear hZ h3 h4 hD1 hD2 hnx hny hla hlb hna hnb hi1 hi2 hla1 hlb1 hfr hXn hbig hT1 hT2 hpx
    go_enter Try.func8, Try.ntmps8
    go_wp2_with (first | (go_at_call 16; go_must (with_reducible refine (head_any _).mono ?_); rintro e w0 ⟨rfl, hx0⟩) | (go_at_call 19; (with_reducible refine (Ka.out _ hx0).mono ?_); rintro e w1 ⟨A1, c1, rfl, hx1, hown1⟩; rw [Hla.out] at hown1 ⊢; have Hown1 := Lib.hid hown1; clear hown1) | (go_at_call 21; (with_reducible refine (tdec_any A1 n c1 la _ (rd_own Hown1.out) (own_max Hown1.out).1 Hma.out).mono ?_); rintro e w2 ⟨A2, c2, hs2, rfl, hx2, hown2, hm2⟩; rw [← HD1.out] at hown2 hm2 ⊢; dsimp only at hown2 hm2; rw [Hnx.out] at hown2; dsimp only; rw [Hnx.out]; obtain ⟨gx, hgx⟩ := OwnFs.form hown2 (by omega); subst hgx; have Hown2 := Lib.hid hown2; have Hm2 := Lib.hid hm2; clear hown2 hm2) | (go_at_call 19; (with_reducible refine (Kb.out _ (hx0.tr (hx1.tr hx2))).mono ?_); rintro e w3 ⟨A3, c3, rfl, hx3, hown3⟩; rw [Hlb.out] at hown3 ⊢; have Hown3 := Lib.hid hown3; clear hown3) | (go_at_call 21; (with_reducible refine (tdec_any A3 n2 c3 lb _ (rd_own Hown3.out) (own_max Hown3.out).1 Hmb.out).mono ?_); rintro e w4 ⟨A4, c4, hs4, rfl, hx4, hown4, hm4⟩; rw [← HD2.out] at hown4 hm4 ⊢; dsimp only at hown4 hm4; rw [Hny.out] at hown4; dsimp only; rw [Hny.out]; obtain ⟨gy, hgy⟩ := OwnFs.form hown4 (by omega); subst hgy; have Hown4 := Lib.hid hown4; have Hm4 := Lib.hid hm4; clear hown4 hm4) | (go_at_call 19; (with_reducible refine (Ka.out _ (hx0.tr (hx1.tr (hx2.tr (hx3.tr hx4))))).mono ?_); rintro e w5 ⟨A5, c5, rfl, hx5, hown5⟩; rw [Hla.out] at hown5 ⊢; have Hown5 := Lib.hid hown5; clear hown5) | (at_builtin; refine wpB_append rfl (.tmp 48) (.tmp 49) rfl w4 rfl Hown5.out hx5 rfl (Hrb.out.ext (hx0.tr (hx1.tr (hx2.tr (hx3.tr (hx4.tr hx5)))))) (by have := H1024.out; omega) ?_; intro A6 n6 c6 w6 hx6 hn6 hown6 hk6 hg6; have Hown6 := Lib.hid hown6; clear hown6 hk6 hg6) | ((go_at_call 21; (with_reducible refine (tdec_any A6 n6 c6 (la ++ lb) _ (rd_own Hown6.out) (own_max Hown6.out).1 (own_max Hown6.out).2).mono ?_); rintro e w7 ⟨A7, c7, hs7, rfl, hx7, hown7, hm7⟩; rw [HZ.out] at hown7 hm7 ⊢; dsimp only at hown7 hm7; dsimp only; have Hown7 := Lib.hid hown7; have Hm7 := Lib.hid hm7; clear hown7 hm7); have qx : FsRd w7 (some ⟨gx, 0, none⟩) nx X := (by have h := Hown2.out.rd; rw [Hm2.out] at h; exact h.ext (hx3.tr (hx4.tr (hx6.tr hx7)))); have qy : FsRd w7 (some ⟨gy, 0, none⟩) ny Y := (by have h := Hown4.out.rd; rw [Hm4.out] at h; exact h.ext (hx6.tr hx7)); have cx := last_cell qx HX.out; have cy := first_cell qy HY.out; have Qx := Lib.hid qx; have Qy := Lib.hid qy; clear qx qy))
    go_quiet (fail)
    go_wp2_with fail
    go_ret
    exact ⟨rfl, (by repeat (first | with_reducible exact Below.refl _ _ | with_reducible assumption | with_reducible refine ExtD ?_ | with_reducible refine ExtDN ?_ | with_reducible refine ExtA ?_ | (with_reducible refine ExtR ?_ ?_; (first | omega | (dsimp only; omega) | (simp; done) | (simp; omega))) | (with_reducible refine ExtS ?_ ?_; (first | omega | (dsimp only; omega) | (simp; done) | (simp; omega))) | with_reducible refine Ext.tr ?_ (by with_reducible assumption)))⟩
  · rw [if_neg hord] at hZ
    have HZ := Lib.hid hZ
    have td : decide (T2 ≤ T1) = false := by simpa using hord
    have hb1 := faults_bound X hi1.2.2.1 hi1.2.2.2.2.2.2.1
    have hb3 := faults_bound Y hi2.2.2.1 hi2.2.2.2.2.2.2.1
    have hx31 : nx ≤ 31 := by omega
    have hy31 : ny ≤ 31 := by omega
    clear hZ h3 h4 hD1 hD2 hnx hny hla hlb hna hnb hi1 hi2 hla1 hlb1 hfr hXn hbig hT1 hT2 hpx hb1 hb3 hord
    go_enter Try.func8, Try.ntmps8
    go_wp2_with (first | (go_at_call 16; go_must (with_reducible refine (head_any _).mono ?_); rintro e w0 ⟨rfl, hx0⟩) | (go_at_call 19; (with_reducible refine (Ka.out _ hx0).mono ?_); rintro e w1 ⟨A1, c1, rfl, hx1, hown1⟩; rw [Hla.out] at hown1 ⊢; have Hown1 := Lib.hid hown1; clear hown1) | (go_at_call 21; (with_reducible refine (tdec_any A1 n c1 la _ (rd_own Hown1.out) (own_max Hown1.out).1 Hma.out).mono ?_); rintro e w2 ⟨A2, c2, hs2, rfl, hx2, hown2, hm2⟩; rw [← HD1.out] at hown2 hm2 ⊢; dsimp only at hown2 hm2; rw [Hnx.out] at hown2; dsimp only; rw [Hnx.out]; obtain ⟨gx, hgx⟩ := OwnFs.form hown2 (by omega); subst hgx; have Hown2 := Lib.hid hown2; have Hm2 := Lib.hid hm2; clear hown2 hm2) | (go_at_call 19; (with_reducible refine (Kb.out _ (hx0.tr (hx1.tr hx2))).mono ?_); rintro e w3 ⟨A3, c3, rfl, hx3, hown3⟩; rw [Hlb.out] at hown3 ⊢; have Hown3 := Lib.hid hown3; clear hown3) | (go_at_call 21; (with_reducible refine (tdec_any A3 n2 c3 lb _ (rd_own Hown3.out) (own_max Hown3.out).1 Hmb.out).mono ?_); rintro e w4 ⟨A4, c4, hs4, rfl, hx4, hown4, hm4⟩; rw [← HD2.out] at hown4 hm4 ⊢; dsimp only at hown4 hm4; rw [Hny.out] at hown4; dsimp only; rw [Hny.out]; obtain ⟨gy, hgy⟩ := OwnFs.form hown4 (by omega); subst hgy; have Hown4 := Lib.hid hown4; have Hm4 := Lib.hid hm4; clear hown4 hm4) | (go_at_call 19; (with_reducible refine (Ka.out _ (hx0.tr (hx1.tr (hx2.tr (hx3.tr hx4))))).mono ?_); rintro e w5 ⟨A5, c5, rfl, hx5, hown5⟩; rw [Hla.out] at hown5 ⊢; have Hown5 := Lib.hid hown5; clear hown5) | (at_builtin; refine wpB_append rfl (.tmp 48) (.tmp 49) rfl w4 rfl Hown5.out hx5 rfl (Hrb.out.ext (hx0.tr (hx1.tr (hx2.tr (hx3.tr (hx4.tr hx5)))))) (by have := H1024.out; omega) ?_; intro A6 n6 c6 w6 hx6 hn6 hown6 hk6 hg6; have Hown6 := Lib.hid hown6; clear hown6 hk6 hg6) | ((go_at_call 21; (with_reducible refine (tdec_any A6 n6 c6 (la ++ lb) _ (rd_own Hown6.out) (own_max Hown6.out).1 (own_max Hown6.out).2).mono ?_); rintro e w7 ⟨A7, c7, hs7, rfl, hx7, hown7, hm7⟩; rw [HZ.out] at hown7 hm7 ⊢; dsimp only at hown7 hm7; dsimp only; have Hown7 := Lib.hid hown7; have Hm7 := Lib.hid hm7; clear hown7 hm7); have qx : FsRd w7 (some ⟨gx, 0, none⟩) nx X := (by have h := Hown2.out.rd; rw [Hm2.out] at h; exact h.ext (hx3.tr (hx4.tr (hx6.tr hx7)))); have qy : FsRd w7 (some ⟨gy, 0, none⟩) ny Y := (by have h := Hown4.out.rd; rw [Hm4.out] at h; exact h.ext (hx6.tr hx7)); have cx := last_cell qx HX.out; have cy := first_cell qy HY.out; have Qx := Lib.hid qx; have Qy := Lib.hid qy; clear qx qy; rw [List.length_append, Hnx.out, Hny.out]; have Hz7 : Hid (OwnFs w7 w6.heap.size A7 (nx + ny) c7 hs7) := Lib.hid (by have h := Hown7.out; rw [List.length_append, Hnx.out, Hny.out] at h; exact h); have hs1 := fslice_hi A7 (nx + ny) c7 nx (by omega) (own_max Hz7.out.1).1; obtain ⟨A8, hs2, hrd8⟩ := fslice_lo A7 (nx + ny) c7 nx (by omega) (own_max Hz7.out.1).1; rw [Nat.add_sub_cancel_left] at hs2 hrd8; have Hrd8 := Lib.hid hrd8; clear hrd8))
    go_quiet (fail)
    have z7 : FsRd w7 A7 (nx + ny) (X ++ Y) := by have h := Hz7.out.rd; rw [Hm7.out] at h; exact h
    have z1 : FsRd w7 A7 nx X := by
      have h := fs_take z7 (k := nx) (by omega)
      rw [show (X ++ Y).take nx = X by rw [← Hnx.out, List.take_left]] at h
      exact h
    have z2 : FsRd w7 A8 ny Y := by
      have h := Hrd8.out w7 _ z7
      rw [show (X ++ Y).drop nx = Y by rw [← Hnx.out, List.drop_left]] at h
      exact h
    have Z1 := Lib.hid z1
    have Z2 := Lib.hid z2
    have BX : Hid (∀ f ∈ X, f.bytes.length ≤ maxLen) := Lib.hid (by have h := Hown2.out.small; rw [Hm2.out] at h; exact h)
    have BY : Hid (∀ f ∈ Y, f.bytes.length ≤ maxLen) := Lib.hid (by have h := Hown4.out.small; rw [Hm4.out] at h; exact h)
    have Hmx : Hid (nx ≤ maxLen) := Lib.hid (by simp only [maxLen]; omega)
    have Hmy : Hid (ny ≤ maxLen) := Lib.hid (by simp only [maxLen]; omega)
    have HE7 := Lib.hid (ExtDN (n := nq) (Ext.rfl' w7))
    clear z7 z1 z2
    go_wp2_with (first
      | (go_at_call 18; (with_reducible refine (alike_own (Z1.out.ext HE7.out) Hmx.out BX.out (some ⟨gx, 0, none⟩) nx c2 (Qx.out.ext HE7.out) rfl).mono ?_); rintro e w8 ⟨rfl, hx8⟩)
      | (go_at_call 18; (with_reducible refine (alike_own (Z2.out.ext (HE7.out.tr hx8)) Hmy.out BY.out (some ⟨gy, 0, none⟩) ny c4 (Qy.out.ext (HE7.out.tr hx8)) rfl).mono ?_); rintro e w9 ⟨rfl, hx9⟩))
    go_ret
    exact ⟨rfl, (by repeat (first | with_reducible exact Below.refl _ _ | with_reducible assumption | with_reducible refine ExtD ?_ | with_reducible refine ExtDN ?_ | with_reducible refine ExtA ?_ | (with_reducible refine ExtR ?_ ?_; (first | omega | (dsimp only; omega) | (simp; done) | (simp; omega))) | (with_reducible refine ExtS ?_ ?_; (first | omega | (dsimp only; omega) | (simp; done) | (simp; omega))) | with_reducible refine Ext.tr ?_ (by with_reducible assumption)))⟩
end Go.Proofs.Ytcekdfhbbfednaa
