/-
  The walks of lists of numbers read: DecodeAll, and the reference's.
-/
import Derived.Test.YtjomgppbialeoaaDoorVarD
import Derived.Test.YtjomgppbialeoaaDoorVarE
import Derived.Test.YtjomgppbialeoaaDoorVlsW
import Derived.Test.YtjomgppbialeoaaDoorResT
namespace Go.Proofs.YtjomgppbialeoaaDoor
open Go.RowKit
set_option linter.unusedVariables false
set_option linter.unusedSimpArgs false
theorem el_u64 : Elem Tryd.prog 47 (.int .u64 0) 1 8 := ⟨by kernel_rfl, rfl, by decide⟩
theorem u64s_len (us : List Nat) : (u64s us).length = us.length := by simp [u64s]
theorem u64s_app (us : List Nat) (u : Nat) : u64s us ++ [.int .u64 (u : Nat)] = u64s (us ++ [u]) := by simp [u64s]
def VsPost (w : World) (r : List Nat × Nat × Nat) (e : Ending) (w' : World) : Prop :=
  ∃ A c, e = .returned (.tuple #[.slice A r.1.length c, .int .i64 (r.2.1 : Nat), .int .i64 (r.2.2 : Nat)]) ∧ Ext w w' ∧ w'.ownsRow w.heap.size 47 1 (.slice A r.1.length c) r.1.length (u64s r.1)
theorem vpost_bad {w w' : World} {r : List Nat × Nat × Nat} {e : Ending} {k : Nat} (h : r = ([], 0, k)) (he : e = .returned (.tuple #[.slice none 0 0, .int .i64 0, .int .i64 (k : Nat)])) (hx : Ext w w') : VsPost w r e w' := by
  subst h
  exact ⟨none, 0, he, hx, World.ownsRow_nil _ _ _ _⟩
def VsdR (w : World) (l : List UInt8) (N : Nat) (r : List Nat × Nat × Nat) (c8 c10 c29 : Value) (wr : World) : Prop :=
  ∃ (us : List Nat) (A : Option Addr) (c at_ : Nat), c29 = .int .u64 (us.length : Nat) ∧ us.length ≤ N ∧ c8 = .int .i64 (at_ : Nat) ∧ at_ ≤ l.length ∧ c10 = .slice A us.length c ∧ Ext w wr ∧ wr.ownsRow w.heap.size 47 1 (.slice A us.length c) us.length (u64s us) ∧ vsdecF (N - us.length) (l.drop at_) us at_ = r
set_option maxRecDepth 100000 in
set_option maxHeartbeats 4000000 in
theorem vsdec_any (A : Option Addr) (n c : Nat) (l : List UInt8) (M : Nat) (w : World) (hr : Rd w A n (u8s l)) (hnc : n ≤ c) (hn : n ≤ 1000000000000) (hM0 : 0 < M) (hM : M ≤ 1000000000000) :
    Calls Tryd.prog 28 #[.slice A n c, .int .i64 (M : Nat)] w (VsPost w (vsdec l M)) := by
  have hlen : l.length = n := by have := hr.1; rw [u8s_len] at this; exact this
  have Hlen := Lib.hid hlen
  have mx : max (0 : Int) (M : Int) = (M : Int) := by omega
  have mx1 : (0 : Int) < (M : Int) := by omega
  have HR := Lib.hid fun W (hx : Ext w W) => hr.ext hx
  have K0 := Lib.hid fun W (hx : Ext w W) => vdec_any A n c l W (hr.ext hx) (by simp only [maxLen]; omega)
  obtain ⟨⟨N, at0, e0⟩, hv⟩ : ∃ x, x = vdec l := ⟨_, rfl⟩
  rw [← hv] at K0
  unfold DecT at K0
  dsimp only at K0
  by_cases he : e0 = 0
  · subst he
    obtain ⟨rr, hb, hat, hN⟩ := vdec_inv hv.symm
    have hatn : at0 ≤ n := by have := congrArg List.length hb; rw [List.length_append, ← hat] at this; omega
    by_cases hNM : M < N
    · have HV : Hid (vsdec l M = ([], 0, 24)) := Lib.hid (by unfold vsdec; rw [← hv]; dsimp only; rw [if_neg (by simp), if_pos hNM])
      have t1 : decide ((M : Int) < (N : Int)) = true := by simp; omega
      have w1 := u64w_ M (by omega)
      clear hlen hr hv hb hat
      go_enter Tryd.func28, Tryd.ntmps28
      go_wp2_with (go_at_call 41; (with_reducible refine (K0.out _ (Ext.rfl' _)).mono ?_); rintro e w1 ⟨rfl, rfl⟩)
      go_ret3
      exact vpost_bad HV.out rfl (by repeat (first | with_reducible exact Below.refl _ _ | with_reducible assumption | with_reducible refine ExtD ?_ | with_reducible refine ExtDN ?_ | with_reducible refine ExtA ?_ | (with_reducible refine ExtR ?_ ?_; (first | omega | (dsimp only; omega) | (simp; done) | (simp; omega))) | (with_reducible refine ExtS ?_ ?_; (first | omega | (dsimp only; omega) | (simp; done) | (simp; omega))) | with_reducible refine Ext.tr ?_ (by with_reducible assumption)))
    · have HV : Hid (vsdec l M = vsdecF N (l.drop at0) [] at0) := Lib.hid (by unfold vsdec; rw [← hv]; dsimp only; rw [if_neg (by simp), if_neg hNM])
      have t1 : decide ((M : Int) < (N : Int)) = false := by simp; omega
      have w1 := u64w_ M (by omega)
      generalize vsdec l M = R at *
      clear hlen hr hv hb hat
      go_enter Tryd.func28, Tryd.ntmps28
      go_wp2_with (go_at_call 41; (with_reducible refine (K0.out _ (Ext.rfl' _)).mono ?_); rintro e w1 ⟨rfl, rfl⟩)
      clear w1 t1 K0
      go_loopw [8, 10, 11, 12, 13, 29] (fun c8 c10 _ _ _ c29 wr => VsdR w l N R c8 c10 c29 wr) (fun _ _ _ _ _ c29 _ => N - (intOf c29).toNat)
      case atStart => exact ⟨[], none, 0, at0, rfl, Nat.zero_le _, rfl, by have := Hlen.out; omega, rfl, (by repeat (first | with_reducible exact Below.refl _ _ | with_reducible assumption | with_reducible refine ExtD ?_ | with_reducible refine ExtDN ?_ | with_reducible refine ExtA ?_ | (with_reducible refine ExtR ?_ ?_; (first | omega | (dsimp only; omega) | (simp; done) | (simp; omega))) | (with_reducible refine ExtS ?_ ?_; (first | omega | (dsimp only; omega) | (simp; done) | (simp; omega))) | with_reducible refine Ext.tr ?_ (by with_reducible assumption))), World.ownsRow_nil _ _ _ _, by rw [HV.out]; rfl⟩
      case round =>
        obtain ⟨us, A1, c1, at_, rfl, hk, rfl, hat, rfl, hx, ho, hd⟩ := hrel
        have HX := Lib.hid hx
        have HO := Lib.hid ho
        have HD := Lib.hid hd
        have hatn2 : at_ ≤ n := by have := Hlen.out; omega
        have hHl := Hlen.out
        clear hx ho hd
        by_cases hlt : us.length < N
        · obtain ⟨A', hsl, hrd⟩ := slice_lo A n c at_ hatn2 hnc
          have R1 := hrd wr l (HR.out _ HX.out)
          have K1 := vdec_any A' (n - at_) (c - at_) (l.drop at_) wr R1 (by simp only [maxLen]; omega)
          obtain ⟨⟨u, d, e1⟩, hv1⟩ : ∃ x, x = vdec (l.drop at_) := ⟨_, rfl⟩
          rw [← hv1] at K1
          unfold DecT at K1
          dsimp only at K1
          have HK := Lib.hid K1
          clear K1
          have hND : N - us.length = (N - (us.length + 1)) + 1 := by omega
          by_cases he1 : e1 = 0
          · subst he1
            obtain ⟨r2, hb2, hd2, hu2⟩ := vdec_inv hv1.symm
            have hdn : at_ + d ≤ l.length := by
              have := congrArg List.length hb2
              rw [List.length_drop, List.length_append, ← hd2] at this
              omega
            have HN2 : Hid (vsdecF (N - (us ++ [u]).length) (l.drop (at_ + d)) (us ++ [u]) (at_ + d) = R) := Lib.hid (by
              have h1 := HD.out
              rw [hND] at h1
              unfold vsdecF at h1
              rw [← hv1] at h1
              dsimp only at h1
              rw [if_neg (by simp), List.drop_drop] at h1
              rw [List.length_append, List.length_singleton]
              exact h1)
            have hul := HO.out.1
            clear hv1 hb2 hd2 hrd R1
            go_wp2_with (first
              | (go_at_call 41; (with_reducible refine (HK.out).mono ?_); rintro e w5 ⟨rfl, rfl⟩)
              | (at_builtin; go_must (refine wpL_append rfl (.tmp 42) (.tmp 44) 48 rfl w.heap.size 47 _ 1 8 Tryd.underlying48 el_u64 (.slice A1 us.length c1) _ _ rfl (own_ext (ExtA (Ext.rfl' _)) HO.out) _ _ _ _ rfl (Rd.toN (rd_new wr #[.int .u64 (u : Nat)] 47)) (by intro v hv; simp at hv; subst hv; rfl) _ _ rfl (u64s_app us u) (by simp only [maxLen]; omega) (by omega) (by have := HX.out.size; simp; omega) ?_); intro v1 w7 hown1 hg1 _; obtain ⟨A7, c7, rfl⟩ := own_slice hown1))
            go_roundw
            case rel =>
              have hln : (us ++ [u]).length = us.length + 1 := by simp
              have ho7 := hown1
              rw [← hln] at ho7 ⊢
              exact ⟨us ++ [u], A7, c7, at_ + d, by rw [hln]; go_num, by omega, by go_num, hdn, rfl, Ext.grown (ExtA HX.out) hg1 (fun r hr => own_lt HO.out r hr), ho7, HN2.out⟩
            case measure => simp [intOf]; omega
          · have HB : Hid (R = ([], 0, e1)) := Lib.hid (by
              have h1 := HD.out
              rw [hND] at h1
              unfold vsdecF at h1
              rw [← hv1] at h1
              dsimp only at h1
              rw [if_pos he1] at h1
              exact h1.symm)
            have te : ((e1 : Int) != 0) = true := by simp; exact he1
            clear hv1 hrd R1 he1
            go_wp2_with (go_at_call 41; (with_reducible refine (HK.out).mono ?_); rintro e w5 ⟨rfl, rfl⟩)
            go_ret3
            exact vpost_bad HB.out rfl HX.out
        · have hz : N - us.length = 0 := by omega
          have HB : Hid (R = (us, at_, 0)) := Lib.hid (by
            have h1 := HD.out
            rw [hz] at h1
            unfold vsdecF at h1
            exact h1.symm)
          go_wp2_with fail
          go_ret3
          rw [HB.out]
          exact ⟨A1, c1, rfl, HX.out, HO.out⟩
  · have HV : Hid (vsdec l M = ([], 0, e0)) := Lib.hid (by unfold vsdec; rw [← hv]; dsimp only; rw [if_pos he])
    have t1 : ((e0 : Int) != 0) = true := by simp; exact he
    clear hlen hr hv he
    go_enter Tryd.func28, Tryd.ntmps28
    go_wp2_with (go_at_call 41; (with_reducible refine (K0.out _ (Ext.rfl' _)).mono ?_); rintro e w1 ⟨rfl, rfl⟩)
    go_ret3
    exact vpost_bad HV.out rfl (by repeat (first | with_reducible exact Below.refl _ _ | with_reducible assumption | with_reducible refine ExtD ?_ | with_reducible refine ExtDN ?_ | with_reducible refine ExtA ?_ | (with_reducible refine ExtR ?_ ?_; (first | omega | (dsimp only; omega) | (simp; done) | (simp; omega))) | (with_reducible refine ExtS ?_ ?_; (first | omega | (dsimp only; omega) | (simp; done) | (simp; omega))) | with_reducible refine Ext.tr ?_ (by with_reducible assumption)))
def sliceLen : Value → Nat
  | .slice _ n _ => n
  | _ => 0
def VsdR2 (w : World) (l : List UInt8) (N : Nat) (r : List Nat × Nat × Nat) (c8 c10 : Value) (wr : World) : Prop :=
  ∃ (us : List Nat) (A : Option Addr) (c at_ : Nat), us.length ≤ N ∧ c8 = .int .i64 (at_ : Nat) ∧ at_ ≤ l.length ∧ c10 = .slice A us.length c ∧ Ext w wr ∧ wr.ownsRow w.heap.size 47 1 (.slice A us.length c) us.length (u64s us) ∧ vsdecF (N - us.length) (l.drop at_) us at_ = r
set_option maxRecDepth 100000 in
set_option maxHeartbeats 4000000 in
theorem rvsdec_any (A : Option Addr) (n c : Nat) (l : List UInt8) (M : Nat) (w : World) (hr : Rd w A n (u8s l)) (hnc : n ≤ c) (hn : n ≤ 1000000000000) (hM0 : 0 < M) (hM : M ≤ 1000000000000) :
    Calls Tryd.prog 26 #[.slice A n c, .int .i64 (M : Nat)] w (VsPost w (vsdec l M)) := by
  have hlen : l.length = n := by have := hr.1; rw [u8s_len] at this; exact this
  have Hlen := Lib.hid hlen
  have mx : max (0 : Int) (M : Int) = (M : Int) := by omega
  have mx1 : (0 : Int) < (M : Int) := by omega
  have HR := Lib.hid fun W (hx : Ext w W) => hr.ext hx
  have K0 := Lib.hid fun W (hx : Ext w W) => rvdec_any A n c l W (hr.ext hx) (by simp only [maxLen]; omega)
  obtain ⟨⟨N, at0, e0⟩, hv⟩ : ∃ x, x = vdec l := ⟨_, rfl⟩
  rw [← hv] at K0
  unfold DecT at K0
  dsimp only at K0
  by_cases he : e0 = 0
  · subst he
    obtain ⟨rr, hb, hat, hN⟩ := vdec_inv hv.symm
    have hatn : at0 ≤ n := by have := congrArg List.length hb; rw [List.length_append, ← hat] at this; omega
    by_cases hNM : M < N
    · have HV : Hid (vsdec l M = ([], 0, 24)) := Lib.hid (by unfold vsdec; rw [← hv]; dsimp only; rw [if_neg (by simp), if_pos hNM])
      have t1 : decide ((M : Int) < (N : Int)) = true := by simp; omega
      have w1 := u64w_ M (by omega)
      clear hlen hr hv hb hat
      go_enter Tryd.func26, Tryd.ntmps26
      go_wp2_with (go_at_call 39; (with_reducible refine (K0.out _ (Ext.rfl' _)).mono ?_); rintro e w1 ⟨rfl, rfl⟩)
      go_ret3
      exact vpost_bad HV.out rfl (by repeat (first | with_reducible exact Below.refl _ _ | with_reducible assumption | with_reducible refine ExtD ?_ | with_reducible refine ExtDN ?_ | with_reducible refine ExtA ?_ | (with_reducible refine ExtR ?_ ?_; (first | omega | (dsimp only; omega) | (simp; done) | (simp; omega))) | (with_reducible refine ExtS ?_ ?_; (first | omega | (dsimp only; omega) | (simp; done) | (simp; omega))) | with_reducible refine Ext.tr ?_ (by with_reducible assumption)))
    · have HV : Hid (vsdec l M = vsdecF N (l.drop at0) [] at0) := Lib.hid (by unfold vsdec; rw [← hv]; dsimp only; rw [if_neg (by simp), if_neg hNM])
      have t1 : decide ((M : Int) < (N : Int)) = false := by simp; omega
      have w1 := u64w_ M (by omega)
      generalize vsdec l M = R at *
      clear hlen hr hv hb hat
      go_enter Tryd.func26, Tryd.ntmps26
      go_wp2_with (go_at_call 39; (with_reducible refine (K0.out _ (Ext.rfl' _)).mono ?_); rintro e w1 ⟨rfl, rfl⟩)
      clear w1 t1 K0
      go_loopw [8, 10, 11, 12, 13] (fun c8 c10 _ _ _ wr => VsdR2 w l N R c8 c10 wr) (fun _ c10 _ _ _ _ => N - sliceLen c10)
      case atStart => exact ⟨[], some ⟨w.heap.size, 0, none⟩, 0, at0, Nat.zero_le _, rfl, by have := Hlen.out; omega, rfl, (by repeat (first | with_reducible exact Below.refl _ _ | with_reducible assumption | with_reducible refine ExtD ?_ | with_reducible refine ExtDN ?_ | with_reducible refine ExtA ?_ | (with_reducible refine ExtR ?_ ?_; (first | omega | (dsimp only; omega) | (simp; done) | (simp; omega))) | (with_reducible refine ExtS ?_ ?_; (first | omega | (dsimp only; omega) | (simp; done) | (simp; omega))) | with_reducible refine Ext.tr ?_ (by with_reducible assumption))), own_new w w.heap.size #[] 47 0 (Nat.le_refl _) (by decide) rfl, by rw [HV.out]; rfl⟩
      case round =>
        obtain ⟨us, A1, c1, at_, hk, rfl, hat, rfl, hx, ho, hd⟩ := hrel
        have HX := Lib.hid hx
        have HO := Lib.hid ho
        have HD := Lib.hid hd
        have hatn2 : at_ ≤ n := by have := Hlen.out; omega
        have hHl := Hlen.out
        clear hx ho hd
        by_cases hlt : us.length < N
        · obtain ⟨A', hsl, hrd⟩ := slice_lo A n c at_ hatn2 hnc
          have R1 := hrd wr l (HR.out _ HX.out)
          have K1 := rvdec_any A' (n - at_) (c - at_) (l.drop at_) wr R1 (by simp only [maxLen]; omega)
          obtain ⟨⟨u, d, e1⟩, hv1⟩ : ∃ x, x = vdec (l.drop at_) := ⟨_, rfl⟩
          rw [← hv1] at K1
          unfold DecT at K1
          dsimp only at K1
          have HK := Lib.hid K1
          clear K1
          have hND : N - us.length = (N - (us.length + 1)) + 1 := by omega
          by_cases he1 : e1 = 0
          · subst he1
            obtain ⟨r2, hb2, hd2, hu2⟩ := vdec_inv hv1.symm
            have hdn : at_ + d ≤ l.length := by
              have := congrArg List.length hb2
              rw [List.length_drop, List.length_append, ← hd2] at this
              omega
            have HN2 : Hid (vsdecF (N - (us ++ [u]).length) (l.drop (at_ + d)) (us ++ [u]) (at_ + d) = R) := Lib.hid (by
              have h1 := HD.out
              rw [hND] at h1
              unfold vsdecF at h1
              rw [← hv1] at h1
              dsimp only at h1
              rw [if_neg (by simp), List.drop_drop] at h1
              rw [List.length_append, List.length_singleton]
              exact h1)
            have hul := HO.out.1
            clear hv1 hb2 hd2 hrd R1
            go_wp2_with (first
              | (go_at_call 39; (with_reducible refine (HK.out).mono ?_); rintro e w5 ⟨rfl, rfl⟩)
              | (at_builtin; go_must (refine wpL_append rfl (.tmp 46) (.tmp 48) 48 rfl w.heap.size 47 _ 1 8 Tryd.underlying48 el_u64 (.slice A1 us.length c1) _ _ rfl (own_ext (ExtA (Ext.rfl' _)) HO.out) _ _ _ _ rfl (Rd.toN (rd_new wr #[.int .u64 (u : Nat)] 47)) (by intro v hv; simp at hv; subst hv; rfl) _ _ rfl (u64s_app us u) (by simp only [maxLen]; omega) (by omega) (by have := HX.out.size; simp; omega) ?_); intro v1 w7 hown1 hg1 _; obtain ⟨A7, c7, rfl⟩ := own_slice hown1))
            go_roundw
            case rel =>
              have hln : (us ++ [u]).length = us.length + 1 := by simp
              have ho7 := hown1
              rw [← hln] at ho7 ⊢
              exact ⟨us ++ [u], A7, c7, at_ + d, by omega, by go_num, hdn, rfl, Ext.grown (ExtA HX.out) hg1 (fun r hr => own_lt HO.out r hr), ho7, HN2.out⟩
            case measure => simp [sliceLen]; omega
          · have HB : Hid (R = ([], 0, e1)) := Lib.hid (by
              have h1 := HD.out
              rw [hND] at h1
              unfold vsdecF at h1
              rw [← hv1] at h1
              dsimp only at h1
              rw [if_pos he1] at h1
              exact h1.symm)
            have te : ((e1 : Int) != 0) = true := by simp; exact he1
            clear hv1 hrd R1 he1
            go_wp2_with (go_at_call 39; (with_reducible refine (HK.out).mono ?_); rintro e w5 ⟨rfl, rfl⟩)
            go_ret3
            exact vpost_bad HB.out rfl HX.out
        · have hz : N - us.length = 0 := by omega
          have HB : Hid (R = (us, at_, 0)) := Lib.hid (by
            have h1 := HD.out
            rw [hz] at h1
            unfold vsdecF at h1
            exact h1.symm)
          go_wp2_with fail
          go_ret3
          rw [HB.out]
          exact ⟨A1, c1, rfl, HX.out, HO.out⟩
  · have HV : Hid (vsdec l M = ([], 0, e0)) := Lib.hid (by unfold vsdec; rw [← hv]; dsimp only; rw [if_pos he])
    have t1 : ((e0 : Int) != 0) = true := by simp; exact he
    clear hlen hr hv he
    go_enter Tryd.func26, Tryd.ntmps26
    go_wp2_with (go_at_call 39; (with_reducible refine (K0.out _ (Ext.rfl' _)).mono ?_); rintro e w1 ⟨rfl, rfl⟩)
    go_ret3
    exact vpost_bad HV.out rfl (by repeat (first | with_reducible exact Below.refl _ _ | with_reducible assumption | with_reducible refine ExtD ?_ | with_reducible refine ExtDN ?_ | with_reducible refine ExtA ?_ | (with_reducible refine ExtR ?_ ?_; (first | omega | (dsimp only; omega) | (simp; done) | (simp; omega))) | (with_reducible refine ExtS ?_ ?_; (first | omega | (dsimp only; omega) | (simp; done) | (simp; omega))) | with_reducible refine Ext.tr ?_ (by with_reducible assumption)))
end Go.Proofs.YtjomgppbialeoaaDoor
