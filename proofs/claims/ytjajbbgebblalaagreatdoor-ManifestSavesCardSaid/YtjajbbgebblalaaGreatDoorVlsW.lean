/-
  The walks of lists of numbers: EncodeAll, and the reference's.
-/
/-
  The walks of lists of numbers read: DecodeAll, and the reference's.
-/
import Derived.Test.YtjajbbgebblalaaGreatDoorVarW
import Derived.Test.YtjajbbgebblalaaGreatDoorBytesX
import Derived.Test.YtjajbbgebblalaaGreatDoorCrcP
import Derived.Test.YtjajbbgebblalaaGreatDoorVarD
import Derived.Test.YtjajbbgebblalaaGreatDoorVarE
import Derived.Test.YtjajbbgebblalaaGreatDoorResT
namespace Go.Proofs.YtjajbbgebblalaaGreatDoor
open Go.RowKit
set_option linter.unusedVariables false
set_option linter.unusedSimpArgs false
def u64s (us : List Nat) : List Value := us.map fun u => .int .u64 (u : Nat)
theorem u64w_ (m : Nat) (h : m < 18446744073709551616) : IntKind.u64.wrap (m : Int) = m := by rw [IntKind.wrap_u64]; omega
theorem at_u64 {w : World} {A : Option Addr} {n k : Nat} {us : List Nat} (h : Rd w A n (u64s us)) (hk : k < n) :
    ∃ b o, A = some ⟨b, o, none⟩ ∧ w.cell? ⟨b, o + k, none⟩ = some (.int .u64 (us.getD k 0 : Nat)) := by
  obtain ⟨b, o, e, hc⟩ := h.2 (by omega)
  have hl : k < us.length := by have := h.1; simp [u64s] at this; omega
  exact ⟨b, o, e, hc k _ (by simp [u64s, List.getD, List.getElem?_eq_getElem hl])⟩
def vsT (us : List Nat) (k : Nat) : List UInt8 := venc us.length ++ (us.take k).flatMap venc
theorem vsT_succ (us : List Nat) {k : Nat} (hk : k < us.length) : vsT us (k + 1) = vsT us k ++ venc (us.getD k 0) := by
  unfold vsT
  rw [List.take_succ_eq_append_getElem hk, List.flatMap_append, List.append_assoc, List.getD_eq_getElem?_getD, List.getElem?_eq_getElem hk]
  simp
theorem vencs_ten {us : List Nat} (h : ∀ u ∈ us, u < 18446744073709551616) : (us.flatMap venc).length ≤ 10 * us.length := by
  induction us with
  | nil => simp
  | cons u r ih =>
    have h1 := venc_len10 u (h u (List.mem_cons_self ..))
    have h2 := ih fun v hv => h v (List.mem_cons_of_mem _ hv)
    rw [List.flatMap_cons, List.length_append, List.length_cons]; omega
theorem vsT_len (us : List Nat) (k : Nat) (h : ∀ u ∈ us, u < 18446744073709551616) (hn : us.length ≤ 1000000000000) : (vsT us k).length ≤ 10000000000010 := by
  unfold vsT
  have h1 := vencs_ten (us := us.take k) fun u hu => h u (List.mem_of_mem_take hu)
  have h2 := venc_len10 us.length (by omega)
  rw [List.length_append]
  rw [List.length_take] at h1
  omega
def VsR (w : World) (us : List Nat) (c3 ck : Value) (wr : World) : Prop :=
  ∃ (k : Nat) (A : Option Addr) (c : Nat), ck = .int .i64 (k : Nat) ∧ k ≤ us.length ∧ c3 = .slice A (vsT us k).length c ∧ Ext w wr ∧ wr.ownsRow w.heap.size 5 1 (.slice A (vsT us k).length c) (vsT us k).length (u8s (vsT us k))
set_option maxRecDepth 100000 in
set_option maxHeartbeats 2000000 in
theorem vsenc_any (A : Option Addr) (n c : Nat) (us : List Nat) (w : World) (hr : Rd w A n (u64s us)) (hu : ∀ u ∈ us, u < 18446744073709551616) (hn : n ≤ 1000000000000) :
    Calls Tryz.prog 98 #[.slice A n c] w (NewB w (vsenc us)) := by
  have hlen : us.length = n := by have := hr.1; simpa [u64s] using this
  have Hlen := Lib.hid hlen
  have K := Lib.hid fun (u : Nat) (W : World) (h : u < 18446744073709551616) => venc_any u W (by omega)
  have HV : Hid (vsT us 0 = venc n) := Lib.hid (by unfold vsT; rw [hlen]; simp)
  have HL := Lib.hid fun k => vsT_len us k hu (by omega)
  have w0 := u64w_ n (by omega)
  clear hlen
  unfold NewB
  go_enter Tryz.func98, Tryz.ntmps98
  go_wp2_with (go_at_call 81; (with_reducible refine (K.out n _ (by omega)).mono ?_); rintro e w1 ⟨A1, c1, rfl, hx1, ho1⟩)
  rw [← HV.out] at ho1 ⊢
  have HX1 := Lib.hid hx1
  have O1 := Lib.hid ho1
  clear hx1 ho1 w0
  go_loopw [3, 5, 12] (fun c3 _ ck wr => VsR w us c3 ck wr) (fun _ _ ck _ => n - (intOf ck).toNat)
  case atStart => exact ⟨0, A1, c1, rfl, by omega, rfl, HX1.out, O1.out⟩
  case round =>
    obtain ⟨k, A2, c2, rfl, hk, rfl, hx, ho⟩ := hrel
    have HX := Lib.hid hx
    have HO := Lib.hid ho
    by_cases hlt : k < n
    · obtain ⟨b, o, rfl, hcb⟩ := at_u64 hr hlt
      have e0 := HX.out.cell hcb
      have hkl : k < us.length := by rw [Hlen.out]; exact hlt
      have hst : Hid (vsT us (k + 1) = vsT us k ++ venc (us.getD k 0)) := Lib.hid (vsT_succ us hkl)
      have hub : us.getD k 0 < 18446744073709551616 := by
        rw [List.getD_eq_getElem?_getD, List.getElem?_eq_getElem hkl]; exact hu _ (List.getElem_mem hkl)
      have hl1 := HL.out k
      have hl2 := venc_len10 _ hub
      clear hcb hx ho
      generalize us.getD k 0 = x at *
      generalize hT : vsT us k = t at *
      go_wp2_with (first
        | (go_at_call 81; (with_reducible refine (K.out x _ hub).mono ?_); rintro e w5 ⟨A5, c5, rfl, hx5, ho5⟩; have hX5 : Ext w w5 := HX.out.tr hx5)
        | (at_builtin; refine wpB_append rfl (.tmp 16) (.tmp 18) rfl w rfl (own_ext hx5 HO.out) hX5 rfl (rd_own ho5) (by omega) ?_; intro A6 n6 c6 w6 hx6 hn6 hown6 hk6 hg6))
      go_roundw
      case rel =>
        rw [hn6.out, ← hst.out] at hown6 ⊢
        exact ⟨k + 1, A6, c6, by go_num, by omega, rfl, hx6, hown6⟩
      case measure => simp [intOf]; omega
    · have hkn : vsT us k = vsenc us := by unfold vsT vsenc; rw [List.take_of_length_le (by have := Hlen.out; omega)]
      clear hx ho
      have hO := HO.out
      rw [hkn] at hO ⊢
      have HO2 := Lib.hid hO
      clear hO HO
      go_wp2_with fail
      go_ret
      exact ⟨A2, c2, rfl, HX.out, HO2.out⟩
set_option maxRecDepth 100000 in
set_option maxHeartbeats 2000000 in
theorem rvsenc_any (A : Option Addr) (n c : Nat) (us : List Nat) (w : World) (hr : Rd w A n (u64s us)) (hu : ∀ u ∈ us, u < 18446744073709551616) (hn : n ≤ 1000000000000) :
    Calls Tryz.prog 56 #[.slice A n c] w (NewB w (vsenc us)) := by
  have hlen : us.length = n := by have := hr.1; simpa [u64s] using this
  have Hlen := Lib.hid hlen
  have K := Lib.hid fun (u : Nat) (W : World) (h : u < 18446744073709551616) => rvenc_any u W (by omega)
  have HV : Hid (vsT us 0 = venc n) := Lib.hid (by unfold vsT; rw [hlen]; simp)
  have HL := Lib.hid fun k => vsT_len us k hu (by omega)
  have w0 := u64w_ n (by omega)
  clear hlen
  unfold NewB
  go_enter Tryz.func56, Tryz.ntmps56
  go_wp2_with (go_at_call 76; (with_reducible refine (K.out n _ (by omega)).mono ?_); rintro e w1 ⟨A1, c1, rfl, hx1, ho1⟩)
  rw [← HV.out] at ho1 ⊢
  have HX1 := Lib.hid hx1
  have O1 := Lib.hid ho1
  clear hx1 ho1 w0
  go_loopw [3, 4] (fun c3 ck wr => VsR w us c3 ck wr) (fun _ ck _ => n - (intOf ck).toNat)
  case atStart => exact ⟨0, A1, c1, rfl, by omega, rfl, HX1.out, O1.out⟩
  case round =>
    obtain ⟨k, A2, c2, rfl, hk, rfl, hx, ho⟩ := hrel
    have HX := Lib.hid hx
    have HO := Lib.hid ho
    by_cases hlt : k < n
    · obtain ⟨b, o, rfl, hcb⟩ := at_u64 hr hlt
      have e0 := HX.out.cell hcb
      have hkl : k < us.length := by rw [Hlen.out]; exact hlt
      have hst : Hid (vsT us (k + 1) = vsT us k ++ venc (us.getD k 0)) := Lib.hid (vsT_succ us hkl)
      have hub : us.getD k 0 < 18446744073709551616 := by
        rw [List.getD_eq_getElem?_getD, List.getElem?_eq_getElem hkl]; exact hu _ (List.getElem_mem hkl)
      have hl1 := HL.out k
      have hl2 := venc_len10 _ hub
      clear hcb hx ho
      generalize us.getD k 0 = x at *
      generalize hT : vsT us k = t at *
      go_wp2_with (first
        | (go_at_call 76; (with_reducible refine (K.out x _ hub).mono ?_); rintro e w5 ⟨A5, c5, rfl, hx5, ho5⟩; have hX5 : Ext w w5 := HX.out.tr hx5)
        | (at_builtin; refine wpB_append rfl (.tmp 15) (.tmp 20) rfl w rfl (own_ext hx5 HO.out) hX5 rfl (rd_own ho5) (by omega) ?_; intro A6 n6 c6 w6 hx6 hn6 hown6 hk6 hg6))
      go_roundw
      case rel =>
        rw [hn6.out, ← hst.out] at hown6 ⊢
        exact ⟨k + 1, A6, c6, by go_num, by omega, rfl, hx6, hown6⟩
      case measure => simp [intOf]; omega
    · have hkn : vsT us k = vsenc us := by unfold vsT vsenc; rw [List.take_of_length_le (by have := Hlen.out; omega)]
      clear hx ho
      have hO := HO.out
      rw [hkn] at hO ⊢
      have HO2 := Lib.hid hO
      clear hO HO
      go_wp2_with fail
      go_ret
      exact ⟨A2, c2, rfl, HX.out, HO2.out⟩
end Go.Proofs.YtjajbbgebblalaaGreatDoor

namespace Go.Proofs.YtjajbbgebblalaaGreatDoor
open Go.RowKit
set_option linter.unusedVariables false
set_option linter.unusedSimpArgs false
theorem el_u64 : Elem Tryz.prog 112 (.int .u64 0) 1 8 := ⟨by kernel_rfl, rfl, by decide⟩
theorem u64s_len (us : List Nat) : (u64s us).length = us.length := by simp [u64s]
theorem u64s_app (us : List Nat) (u : Nat) : u64s us ++ [.int .u64 (u : Nat)] = u64s (us ++ [u]) := by simp [u64s]
def VsPost (w : World) (r : List Nat × Nat × Nat) (e : Ending) (w' : World) : Prop :=
  ∃ A c, e = .returned (.tuple #[.slice A r.1.length c, .int .i64 (r.2.1 : Nat), .int .i64 (r.2.2 : Nat)]) ∧ Ext w w' ∧ w'.ownsRow w.heap.size 112 1 (.slice A r.1.length c) r.1.length (u64s r.1)
theorem vpost_bad {w w' : World} {r : List Nat × Nat × Nat} {e : Ending} {k : Nat} (h : r = ([], 0, k)) (he : e = .returned (.tuple #[.slice none 0 0, .int .i64 0, .int .i64 (k : Nat)])) (hx : Ext w w') : VsPost w r e w' := by
  subst h
  exact ⟨none, 0, he, hx, World.ownsRow_nil _ _ _ _⟩
def VsdR (w : World) (l : List UInt8) (N : Nat) (r : List Nat × Nat × Nat) (c8 c10 c29 : Value) (wr : World) : Prop :=
  ∃ (us : List Nat) (A : Option Addr) (c at_ : Nat), c29 = .int .u64 (us.length : Nat) ∧ us.length ≤ N ∧ c8 = .int .i64 (at_ : Nat) ∧ at_ ≤ l.length ∧ c10 = .slice A us.length c ∧ Ext w wr ∧ wr.ownsRow w.heap.size 112 1 (.slice A us.length c) us.length (u64s us) ∧ vsdecF (N - us.length) (l.drop at_) us at_ = r
set_option maxRecDepth 100000 in
set_option maxHeartbeats 4000000 in
theorem vsdec_any (A : Option Addr) (n c : Nat) (l : List UInt8) (M : Nat) (w : World) (hr : Rd w A n (u8s l)) (hnc : n ≤ c) (hn : n ≤ 1000000000000) (hM0 : 0 < M) (hM : M ≤ 1000000000000) :
    Calls Tryz.prog 100 #[.slice A n c, .int .i64 (M : Nat)] w (VsPost w (vsdec l M)) := by
  have hlen : l.length = n := by have := hr.1; rw [u8s_len] at this; exact this
  have Hlen := Lib.hid hlen
  have mx : max (0 : Int) (M : Int) = (M : Int) := by omega
  have mx1 : (0 : Int) < (M : Int) := by omega
  have HR := Lib.hid fun W (hx : Ext w W) => hr.ext hx
  have K0 := Lib.hid fun W (hx : Ext w W) => vdec_any A n c l W (hr.ext hx) (by simp only [maxLen]; omega)
  obtain ⟨⟨N, at0, e0⟩, hv⟩ : ∃ x, x = vdec l := ⟨_, rfl⟩
  rw [← hv] at K0
  unfold DecT at K0
  dsimp only at K0
  by_cases he : e0 = 0
  · subst he
    obtain ⟨rr, hb, hat, hN⟩ := vdec_inv hv.symm
    have hatn : at0 ≤ n := by have := congrArg List.length hb; rw [List.length_append, ← hat] at this; omega
    by_cases hNM : M < N
    · have HV : Hid (vsdec l M = ([], 0, 24)) := Lib.hid (by unfold vsdec; rw [← hv]; dsimp only; rw [if_neg (by simp), if_pos hNM])
      have t1 : decide ((M : Int) < (N : Int)) = true := by simp; omega
      have w1 := u64w_ M (by omega)
      clear hlen hr hv hb hat
      go_enter Tryz.func100, Tryz.ntmps100
      go_wp2_with (go_at_call 131; (with_reducible refine (K0.out _ (Ext.rfl' _)).mono ?_); rintro e w1 ⟨rfl, rfl⟩)
      go_ret3
      exact vpost_bad HV.out rfl (by repeat (first | with_reducible exact Below.refl _ _ | with_reducible assumption | with_reducible refine ExtD ?_ | with_reducible refine ExtDN ?_ | with_reducible refine ExtA ?_ | (with_reducible refine ExtR ?_ ?_; (first | omega | (dsimp only; omega) | (simp; done) | (simp; omega))) | (with_reducible refine ExtS ?_ ?_; (first | omega | (dsimp only; omega) | (simp; done) | (simp; omega))) | with_reducible refine Ext.tr ?_ (by with_reducible assumption)))
    · have HV : Hid (vsdec l M = vsdecF N (l.drop at0) [] at0) := Lib.hid (by unfold vsdec; rw [← hv]; dsimp only; rw [if_neg (by simp), if_neg hNM])
      have t1 : decide ((M : Int) < (N : Int)) = false := by simp; omega
      have w1 := u64w_ M (by omega)
      generalize vsdec l M = R at *
      clear hlen hr hv hb hat
      go_enter Tryz.func100, Tryz.ntmps100
      go_wp2_with (go_at_call 131; (with_reducible refine (K0.out _ (Ext.rfl' _)).mono ?_); rintro e w1 ⟨rfl, rfl⟩)
      clear w1 t1 K0
      go_loopw [8, 10, 11, 12, 13, 29] (fun c8 c10 _ _ _ c29 wr => VsdR w l N R c8 c10 c29 wr) (fun _ _ _ _ _ c29 _ => N - (intOf c29).toNat)
      case atStart => exact ⟨[], none, 0, at0, rfl, Nat.zero_le _, rfl, by have := Hlen.out; omega, rfl, (by repeat (first | with_reducible exact Below.refl _ _ | with_reducible assumption | with_reducible refine ExtD ?_ | with_reducible refine ExtDN ?_ | with_reducible refine ExtA ?_ | (with_reducible refine ExtR ?_ ?_; (first | omega | (dsimp only; omega) | (simp; done) | (simp; omega))) | (with_reducible refine ExtS ?_ ?_; (first | omega | (dsimp only; omega) | (simp; done) | (simp; omega))) | with_reducible refine Ext.tr ?_ (by with_reducible assumption))), World.ownsRow_nil _ _ _ _, by rw [HV.out]; rfl⟩
      case round =>
        obtain ⟨us, A1, c1, at_, rfl, hk, rfl, hat, rfl, hx, ho, hd⟩ := hrel
        have HX := Lib.hid hx
        have HO := Lib.hid ho
        have HD := Lib.hid hd
        have hatn2 : at_ ≤ n := by have := Hlen.out; omega
        have hHl := Hlen.out
        clear hx ho hd
        by_cases hlt : us.length < N
        · obtain ⟨A', hsl, hrd⟩ := slice_lo A n c at_ hatn2 hnc
          have R1 := hrd wr l (HR.out _ HX.out)
          have K1 := vdec_any A' (n - at_) (c - at_) (l.drop at_) wr R1 (by simp only [maxLen]; omega)
          obtain ⟨⟨u, d, e1⟩, hv1⟩ : ∃ x, x = vdec (l.drop at_) := ⟨_, rfl⟩
          rw [← hv1] at K1
          unfold DecT at K1
          dsimp only at K1
          have HK := Lib.hid K1
          clear K1
          have hND : N - us.length = (N - (us.length + 1)) + 1 := by omega
          by_cases he1 : e1 = 0
          · subst he1
            obtain ⟨r2, hb2, hd2, hu2⟩ := vdec_inv hv1.symm
            have hdn : at_ + d ≤ l.length := by
              have := congrArg List.length hb2
              rw [List.length_drop, List.length_append, ← hd2] at this
              omega
            have HN2 : Hid (vsdecF (N - (us ++ [u]).length) (l.drop (at_ + d)) (us ++ [u]) (at_ + d) = R) := Lib.hid (by
              have h1 := HD.out
              rw [hND] at h1
              unfold vsdecF at h1
              rw [← hv1] at h1
              dsimp only at h1
              rw [if_neg (by simp), List.drop_drop] at h1
              rw [List.length_append, List.length_singleton]
              exact h1)
            have hul := HO.out.1
            clear hv1 hb2 hd2 hrd R1
            go_wp2_with (first
              | (go_at_call 131; (with_reducible refine (HK.out).mono ?_); rintro e w5 ⟨rfl, rfl⟩)
              | (at_builtin; go_must (refine wpL_append rfl (.tmp 42) (.tmp 44) 113 rfl w.heap.size 112 _ 1 8 Tryz.underlying113 el_u64 (.slice A1 us.length c1) _ _ rfl (own_ext (ExtA (Ext.rfl' _)) HO.out) _ _ _ _ rfl (Rd.toN (rd_new wr #[.int .u64 (u : Nat)] 112)) (by intro v hv; simp at hv; subst hv; rfl) _ _ rfl (u64s_app us u) (by simp only [maxLen]; omega) (by omega) (by have := HX.out.size; simp; omega) ?_); intro v1 w7 hown1 hg1 _; obtain ⟨A7, c7, rfl⟩ := own_slice hown1))
            go_roundw
            case rel =>
              have hln : (us ++ [u]).length = us.length + 1 := by simp
              have ho7 := hown1
              rw [← hln] at ho7 ⊢
              exact ⟨us ++ [u], A7, c7, at_ + d, by rw [hln]; go_num, by omega, by go_num, hdn, rfl, Ext.grown (ExtA HX.out) hg1 (fun r hr => own_lt HO.out r hr), ho7, HN2.out⟩
            case measure => simp [intOf]; omega
          · have HB : Hid (R = ([], 0, e1)) := Lib.hid (by
              have h1 := HD.out
              rw [hND] at h1
              unfold vsdecF at h1
              rw [← hv1] at h1
              dsimp only at h1
              rw [if_pos he1] at h1
              exact h1.symm)
            have te : ((e1 : Int) != 0) = true := by simp; exact he1
            clear hv1 hrd R1 he1
            go_wp2_with (go_at_call 131; (with_reducible refine (HK.out).mono ?_); rintro e w5 ⟨rfl, rfl⟩)
            go_ret3
            exact vpost_bad HB.out rfl HX.out
        · have hz : N - us.length = 0 := by omega
          have HB : Hid (R = (us, at_, 0)) := Lib.hid (by
            have h1 := HD.out
            rw [hz] at h1
            unfold vsdecF at h1
            exact h1.symm)
          go_wp2_with fail
          go_ret3
          rw [HB.out]
          exact ⟨A1, c1, rfl, HX.out, HO.out⟩
  · have HV : Hid (vsdec l M = ([], 0, e0)) := Lib.hid (by unfold vsdec; rw [← hv]; dsimp only; rw [if_pos he])
    have t1 : ((e0 : Int) != 0) = true := by simp; exact he
    clear hlen hr hv he
    go_enter Tryz.func100, Tryz.ntmps100
    go_wp2_with (go_at_call 131; (with_reducible refine (K0.out _ (Ext.rfl' _)).mono ?_); rintro e w1 ⟨rfl, rfl⟩)
    go_ret3
    exact vpost_bad HV.out rfl (by repeat (first | with_reducible exact Below.refl _ _ | with_reducible assumption | with_reducible refine ExtD ?_ | with_reducible refine ExtDN ?_ | with_reducible refine ExtA ?_ | (with_reducible refine ExtR ?_ ?_; (first | omega | (dsimp only; omega) | (simp; done) | (simp; omega))) | (with_reducible refine ExtS ?_ ?_; (first | omega | (dsimp only; omega) | (simp; done) | (simp; omega))) | with_reducible refine Ext.tr ?_ (by with_reducible assumption)))
def sliceLen : Value → Nat
  | .slice _ n _ => n
  | _ => 0
def VsdR2 (w : World) (l : List UInt8) (N : Nat) (r : List Nat × Nat × Nat) (c8 c10 : Value) (wr : World) : Prop :=
  ∃ (us : List Nat) (A : Option Addr) (c at_ : Nat), us.length ≤ N ∧ c8 = .int .i64 (at_ : Nat) ∧ at_ ≤ l.length ∧ c10 = .slice A us.length c ∧ Ext w wr ∧ wr.ownsRow w.heap.size 112 1 (.slice A us.length c) us.length (u64s us) ∧ vsdecF (N - us.length) (l.drop at_) us at_ = r
set_option maxRecDepth 100000 in
set_option maxHeartbeats 4000000 in
theorem rvsdec_any (A : Option Addr) (n c : Nat) (l : List UInt8) (M : Nat) (w : World) (hr : Rd w A n (u8s l)) (hnc : n ≤ c) (hn : n ≤ 1000000000000) (hM0 : 0 < M) (hM : M ≤ 1000000000000) :
    Calls Tryz.prog 72 #[.slice A n c, .int .i64 (M : Nat)] w (VsPost w (vsdec l M)) := by
  have hlen : l.length = n := by have := hr.1; rw [u8s_len] at this; exact this
  have Hlen := Lib.hid hlen
  have mx : max (0 : Int) (M : Int) = (M : Int) := by omega
  have mx1 : (0 : Int) < (M : Int) := by omega
  have HR := Lib.hid fun W (hx : Ext w W) => hr.ext hx
  have K0 := Lib.hid fun W (hx : Ext w W) => rvdec_any A n c l W (hr.ext hx) (by simp only [maxLen]; omega)
  obtain ⟨⟨N, at0, e0⟩, hv⟩ : ∃ x, x = vdec l := ⟨_, rfl⟩
  rw [← hv] at K0
  unfold DecT at K0
  dsimp only at K0
  by_cases he : e0 = 0
  · subst he
    obtain ⟨rr, hb, hat, hN⟩ := vdec_inv hv.symm
    have hatn : at0 ≤ n := by have := congrArg List.length hb; rw [List.length_append, ← hat] at this; omega
    by_cases hNM : M < N
    · have HV : Hid (vsdec l M = ([], 0, 24)) := Lib.hid (by unfold vsdec; rw [← hv]; dsimp only; rw [if_neg (by simp), if_pos hNM])
      have t1 : decide ((M : Int) < (N : Int)) = true := by simp; omega
      have w1 := u64w_ M (by omega)
      clear hlen hr hv hb hat
      go_enter Tryz.func72, Tryz.ntmps72
      go_wp2_with (go_at_call 83; (with_reducible refine (K0.out _ (Ext.rfl' _)).mono ?_); rintro e w1 ⟨rfl, rfl⟩)
      go_ret3
      exact vpost_bad HV.out rfl (by repeat (first | with_reducible exact Below.refl _ _ | with_reducible assumption | with_reducible refine ExtD ?_ | with_reducible refine ExtDN ?_ | with_reducible refine ExtA ?_ | (with_reducible refine ExtR ?_ ?_; (first | omega | (dsimp only; omega) | (simp; done) | (simp; omega))) | (with_reducible refine ExtS ?_ ?_; (first | omega | (dsimp only; omega) | (simp; done) | (simp; omega))) | with_reducible refine Ext.tr ?_ (by with_reducible assumption)))
    · have HV : Hid (vsdec l M = vsdecF N (l.drop at0) [] at0) := Lib.hid (by unfold vsdec; rw [← hv]; dsimp only; rw [if_neg (by simp), if_neg hNM])
      have t1 : decide ((M : Int) < (N : Int)) = false := by simp; omega
      have w1 := u64w_ M (by omega)
      generalize vsdec l M = R at *
      clear hlen hr hv hb hat
      go_enter Tryz.func72, Tryz.ntmps72
      go_wp2_with (go_at_call 83; (with_reducible refine (K0.out _ (Ext.rfl' _)).mono ?_); rintro e w1 ⟨rfl, rfl⟩)
      clear w1 t1 K0
      go_loopw [8, 10, 11, 12, 13] (fun c8 c10 _ _ _ wr => VsdR2 w l N R c8 c10 wr) (fun _ c10 _ _ _ _ => N - sliceLen c10)
      case atStart => exact ⟨[], some ⟨w.heap.size, 0, none⟩, 0, at0, Nat.zero_le _, rfl, by have := Hlen.out; omega, rfl, (by repeat (first | with_reducible exact Below.refl _ _ | with_reducible assumption | with_reducible refine ExtD ?_ | with_reducible refine ExtDN ?_ | with_reducible refine ExtA ?_ | (with_reducible refine ExtR ?_ ?_; (first | omega | (dsimp only; omega) | (simp; done) | (simp; omega))) | (with_reducible refine ExtS ?_ ?_; (first | omega | (dsimp only; omega) | (simp; done) | (simp; omega))) | with_reducible refine Ext.tr ?_ (by with_reducible assumption))), own_new w w.heap.size #[] 112 0 (Nat.le_refl _) (by decide) rfl, by rw [HV.out]; rfl⟩
      case round =>
        obtain ⟨us, A1, c1, at_, hk, rfl, hat, rfl, hx, ho, hd⟩ := hrel
        have HX := Lib.hid hx
        have HO := Lib.hid ho
        have HD := Lib.hid hd
        have hatn2 : at_ ≤ n := by have := Hlen.out; omega
        have hHl := Hlen.out
        clear hx ho hd
        by_cases hlt : us.length < N
        · obtain ⟨A', hsl, hrd⟩ := slice_lo A n c at_ hatn2 hnc
          have R1 := hrd wr l (HR.out _ HX.out)
          have K1 := rvdec_any A' (n - at_) (c - at_) (l.drop at_) wr R1 (by simp only [maxLen]; omega)
          obtain ⟨⟨u, d, e1⟩, hv1⟩ : ∃ x, x = vdec (l.drop at_) := ⟨_, rfl⟩
          rw [← hv1] at K1
          unfold DecT at K1
          dsimp only at K1
          have HK := Lib.hid K1
          clear K1
          have hND : N - us.length = (N - (us.length + 1)) + 1 := by omega
          by_cases he1 : e1 = 0
          · subst he1
            obtain ⟨r2, hb2, hd2, hu2⟩ := vdec_inv hv1.symm
            have hdn : at_ + d ≤ l.length := by
              have := congrArg List.length hb2
              rw [List.length_drop, List.length_append, ← hd2] at this
              omega
            have HN2 : Hid (vsdecF (N - (us ++ [u]).length) (l.drop (at_ + d)) (us ++ [u]) (at_ + d) = R) := Lib.hid (by
              have h1 := HD.out
              rw [hND] at h1
              unfold vsdecF at h1
              rw [← hv1] at h1
              dsimp only at h1
              rw [if_neg (by simp), List.drop_drop] at h1
              rw [List.length_append, List.length_singleton]
              exact h1)
            have hul := HO.out.1
            clear hv1 hb2 hd2 hrd R1
            go_wp2_with (first
              | (go_at_call 83; (with_reducible refine (HK.out).mono ?_); rintro e w5 ⟨rfl, rfl⟩)
              | (at_builtin; go_must (refine wpL_append rfl (.tmp 46) (.tmp 48) 113 rfl w.heap.size 112 _ 1 8 Tryz.underlying113 el_u64 (.slice A1 us.length c1) _ _ rfl (own_ext (ExtA (Ext.rfl' _)) HO.out) _ _ _ _ rfl (Rd.toN (rd_new wr #[.int .u64 (u : Nat)] 112)) (by intro v hv; simp at hv; subst hv; rfl) _ _ rfl (u64s_app us u) (by simp only [maxLen]; omega) (by omega) (by have := HX.out.size; simp; omega) ?_); intro v1 w7 hown1 hg1 _; obtain ⟨A7, c7, rfl⟩ := own_slice hown1))
            go_roundw
            case rel =>
              have hln : (us ++ [u]).length = us.length + 1 := by simp
              have ho7 := hown1
              rw [← hln] at ho7 ⊢
              exact ⟨us ++ [u], A7, c7, at_ + d, by omega, by go_num, hdn, rfl, Ext.grown (ExtA HX.out) hg1 (fun r hr => own_lt HO.out r hr), ho7, HN2.out⟩
            case measure => simp [sliceLen]; omega
          · have HB : Hid (R = ([], 0, e1)) := Lib.hid (by
              have h1 := HD.out
              rw [hND] at h1
              unfold vsdecF at h1
              rw [← hv1] at h1
              dsimp only at h1
              rw [if_pos he1] at h1
              exact h1.symm)
            have te : ((e1 : Int) != 0) = true := by simp; exact he1
            clear hv1 hrd R1 he1
            go_wp2_with (go_at_call 83; (with_reducible refine (HK.out).mono ?_); rintro e w5 ⟨rfl, rfl⟩)
            go_ret3
            exact vpost_bad HB.out rfl HX.out
        · have hz : N - us.length = 0 := by omega
          have HB : Hid (R = (us, at_, 0)) := Lib.hid (by
            have h1 := HD.out
            rw [hz] at h1
            unfold vsdecF at h1
            exact h1.symm)
          go_wp2_with fail
          go_ret3
          rw [HB.out]
          exact ⟨A1, c1, rfl, HX.out, HO.out⟩
  · have HV : Hid (vsdec l M = ([], 0, e0)) := Lib.hid (by unfold vsdec; rw [← hv]; dsimp only; rw [if_pos he])
    have t1 : ((e0 : Int) != 0) = true := by simp; exact he
    clear hlen hr hv he
    go_enter Tryz.func72, Tryz.ntmps72
    go_wp2_with (go_at_call 83; (with_reducible refine (K0.out _ (Ext.rfl' _)).mono ?_); rintro e w1 ⟨rfl, rfl⟩)
    go_ret3
    exact vpost_bad HV.out rfl (by repeat (first | with_reducible exact Below.refl _ _ | with_reducible assumption | with_reducible refine ExtD ?_ | with_reducible refine ExtDN ?_ | with_reducible refine ExtA ?_ | (with_reducible refine ExtR ?_ ?_; (first | omega | (dsimp only; omega) | (simp; done) | (simp; omega))) | (with_reducible refine ExtS ?_ ?_; (first | omega | (dsimp only; omega) | (simp; done) | (simp; omega))) | with_reducible refine Ext.tr ?_ (by with_reducible assumption)))
end Go.Proofs.YtjajbbgebblalaaGreatDoor
