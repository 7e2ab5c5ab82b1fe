/-
  The walks of lists of numbers: EncodeAll, and the reference's.
-/
import Derived.Test.YtjomgppbialeoaaDoorVarW
import Derived.Test.YtjomgppbialeoaaDoorBytesX
import Derived.Test.YtjomgppbialeoaaDoorFrmP
namespace Go.Proofs.YtjomgppbialeoaaDoor
open Go.RowKit
set_option linter.unusedVariables false
set_option linter.unusedSimpArgs false
def u64s (us : List Nat) : List Value := us.map fun u => .int .u64 (u : Nat)
theorem u64w_ (m : Nat) (h : m < 18446744073709551616) : IntKind.u64.wrap (m : Int) = m := by rw [IntKind.wrap_u64]; omega
theorem at_u64 {w : World} {A : Option Addr} {n k : Nat} {us : List Nat} (h : Rd w A n (u64s us)) (hk : k < n) :
    ∃ b o, A = some ⟨b, o, none⟩ ∧ w.cell? ⟨b, o + k, none⟩ = some (.int .u64 (us.getD k 0 : Nat)) := by
  obtain ⟨b, o, e, hc⟩ := h.2 (by omega)
  have hl : k < us.length := by have := h.1; simp [u64s] at this; omega
  exact ⟨b, o, e, hc k _ (by simp [u64s, List.getD, List.getElem?_eq_getElem hl])⟩
def vsT (us : List Nat) (k : Nat) : List UInt8 := venc us.length ++ (us.take k).flatMap venc
theorem vsT_succ (us : List Nat) {k : Nat} (hk : k < us.length) : vsT us (k + 1) = vsT us k ++ venc (us.getD k 0) := by
  unfold vsT
  rw [List.take_succ_eq_append_getElem hk, List.flatMap_append, List.append_assoc, List.getD_eq_getElem?_getD, List.getElem?_eq_getElem hk]
  simp
theorem vencs_ten {us : List Nat} (h : ∀ u ∈ us, u < 18446744073709551616) : (us.flatMap venc).length ≤ 10 * us.length := by
  induction us with
  | nil => simp
  | cons u r ih =>
    have h1 := venc_len10 u (h u (List.mem_cons_self ..))
    have h2 := ih fun v hv => h v (List.mem_cons_of_mem _ hv)
    rw [List.flatMap_cons, List.length_append, List.length_cons]; omega
theorem vsT_len (us : List Nat) (k : Nat) (h : ∀ u ∈ us, u < 18446744073709551616) (hn : us.length ≤ 1000000000000) : (vsT us k).length ≤ 10000000000010 := by
  unfold vsT
  have h1 := vencs_ten (us := us.take k) fun u hu => h u (List.mem_of_mem_take hu)
  have h2 := venc_len10 us.length (by omega)
  rw [List.length_append]
  rw [List.length_take] at h1
  omega
def VsR (w : World) (us : List Nat) (c3 ck : Value) (wr : World) : Prop :=
  ∃ (k : Nat) (A : Option Addr) (c : Nat), ck = .int .i64 (k : Nat) ∧ k ≤ us.length ∧ c3 = .slice A (vsT us k).length c ∧ Ext w wr ∧ wr.ownsRow w.heap.size 5 1 (.slice A (vsT us k).length c) (vsT us k).length (u8s (vsT us k))
set_option maxRecDepth 100000 in
set_option maxHeartbeats 2000000 in
theorem vsenc_any (A : Option Addr) (n c : Nat) (us : List Nat) (w : World) (hr : Rd w A n (u64s us)) (hu : ∀ u ∈ us, u < 18446744073709551616) (hn : n ≤ 1000000000000) :
    Calls Tryd.prog 22 #[.slice A n c] w (NewB w (vsenc us)) := by
  have hlen : us.length = n := by have := hr.1; simpa [u64s] using this
  have Hlen := Lib.hid hlen
  have K := Lib.hid fun (u : Nat) (W : World) (h : u < 18446744073709551616) => venc_any u W (by omega)
  have HV : Hid (vsT us 0 = venc n) := Lib.hid (by unfold vsT; rw [hlen]; simp)
  have HL := Lib.hid fun k => vsT_len us k hu (by omega)
  have w0 := u64w_ n (by omega)
  clear hlen
  unfold NewB
  go_enter Tryd.func22, Tryd.ntmps22
  go_wp2_with (go_at_call 37; (with_reducible refine (K.out n _ (by omega)).mono ?_); rintro e w1 ⟨A1, c1, rfl, hx1, ho1⟩)
  rw [← HV.out] at ho1 ⊢
  have HX1 := Lib.hid hx1
  have O1 := Lib.hid ho1
  clear hx1 ho1 w0
  go_loopw [3, 5, 12] (fun c3 _ ck wr => VsR w us c3 ck wr) (fun _ _ ck _ => n - (intOf ck).toNat)
  case atStart => exact ⟨0, A1, c1, rfl, by omega, rfl, HX1.out, O1.out⟩
  case round =>
    obtain ⟨k, A2, c2, rfl, hk, rfl, hx, ho⟩ := hrel
    have HX := Lib.hid hx
    have HO := Lib.hid ho
    by_cases hlt : k < n
    · obtain ⟨b, o, rfl, hcb⟩ := at_u64 hr hlt
      have e0 := HX.out.cell hcb
      have hkl : k < us.length := by rw [Hlen.out]; exact hlt
      have hst : Hid (vsT us (k + 1) = vsT us k ++ venc (us.getD k 0)) := Lib.hid (vsT_succ us hkl)
      have hub : us.getD k 0 < 18446744073709551616 := by
        rw [List.getD_eq_getElem?_getD, List.getElem?_eq_getElem hkl]; exact hu _ (List.getElem_mem hkl)
      have hl1 := HL.out k
      have hl2 := venc_len10 _ hub
      clear hcb hx ho
      generalize us.getD k 0 = x at *
      generalize hT : vsT us k = t at *
      go_wp2_with (first
        | (go_at_call 37; (with_reducible refine (K.out x _ hub).mono ?_); rintro e w5 ⟨A5, c5, rfl, hx5, ho5⟩; have hX5 : Ext w w5 := HX.out.tr hx5)
        | (at_builtin; refine wpB_append rfl (.tmp 16) (.tmp 18) rfl w rfl (own_ext hx5 HO.out) hX5 rfl (rd_own ho5) (by omega) ?_; intro A6 n6 c6 w6 hx6 hn6 hown6 hk6 hg6))
      go_roundw
      case rel =>
        rw [hn6.out, ← hst.out] at hown6 ⊢
        exact ⟨k + 1, A6, c6, by go_num, by omega, rfl, hx6, hown6⟩
      case measure => simp [intOf]; omega
    · have hkn : vsT us k = vsenc us := by unfold vsT vsenc; rw [List.take_of_length_le (by have := Hlen.out; omega)]
      clear hx ho
      have hO := HO.out
      rw [hkn] at hO ⊢
      have HO2 := Lib.hid hO
      clear hO HO
      go_wp2_with fail
      go_ret
      exact ⟨A2, c2, rfl, HX.out, HO2.out⟩
set_option maxRecDepth 100000 in
set_option maxHeartbeats 2000000 in
theorem rvsenc_any (A : Option Addr) (n c : Nat) (us : List Nat) (w : World) (hr : Rd w A n (u64s us)) (hu : ∀ u ∈ us, u < 18446744073709551616) (hn : n ≤ 1000000000000) :
    Calls Tryd.prog 20 #[.slice A n c] w (NewB w (vsenc us)) := by
  have hlen : us.length = n := by have := hr.1; simpa [u64s] using this
  have Hlen := Lib.hid hlen
  have K := Lib.hid fun (u : Nat) (W : World) (h : u < 18446744073709551616) => rvenc_any u W (by omega)
  have HV : Hid (vsT us 0 = venc n) := Lib.hid (by unfold vsT; rw [hlen]; simp)
  have HL := Lib.hid fun k => vsT_len us k hu (by omega)
  have w0 := u64w_ n (by omega)
  clear hlen
  unfold NewB
  go_enter Tryd.func20, Tryd.ntmps20
  go_wp2_with (go_at_call 34; (with_reducible refine (K.out n _ (by omega)).mono ?_); rintro e w1 ⟨A1, c1, rfl, hx1, ho1⟩)
  rw [← HV.out] at ho1 ⊢
  have HX1 := Lib.hid hx1
  have O1 := Lib.hid ho1
  clear hx1 ho1 w0
  go_loopw [3, 4] (fun c3 ck wr => VsR w us c3 ck wr) (fun _ ck _ => n - (intOf ck).toNat)
  case atStart => exact ⟨0, A1, c1, rfl, by omega, rfl, HX1.out, O1.out⟩
  case round =>
    obtain ⟨k, A2, c2, rfl, hk, rfl, hx, ho⟩ := hrel
    have HX := Lib.hid hx
    have HO := Lib.hid ho
    by_cases hlt : k < n
    · obtain ⟨b, o, rfl, hcb⟩ := at_u64 hr hlt
      have e0 := HX.out.cell hcb
      have hkl : k < us.length := by rw [Hlen.out]; exact hlt
      have hst : Hid (vsT us (k + 1) = vsT us k ++ venc (us.getD k 0)) := Lib.hid (vsT_succ us hkl)
      have hub : us.getD k 0 < 18446744073709551616 := by
        rw [List.getD_eq_getElem?_getD, List.getElem?_eq_getElem hkl]; exact hu _ (List.getElem_mem hkl)
      have hl1 := HL.out k
      have hl2 := venc_len10 _ hub
      clear hcb hx ho
      generalize us.getD k 0 = x at *
      generalize hT : vsT us k = t at *
      go_wp2_with (first
        | (go_at_call 34; (with_reducible refine (K.out x _ hub).mono ?_); rintro e w5 ⟨A5, c5, rfl, hx5, ho5⟩; have hX5 : Ext w w5 := HX.out.tr hx5)
        | (at_builtin; refine wpB_append rfl (.tmp 15) (.tmp 20) rfl w rfl (own_ext hx5 HO.out) hX5 rfl (rd_own ho5) (by omega) ?_; intro A6 n6 c6 w6 hx6 hn6 hown6 hk6 hg6))
      go_roundw
      case rel =>
        rw [hn6.out, ← hst.out] at hown6 ⊢
        exact ⟨k + 1, A6, c6, by go_num, by omega, rfl, hx6, hown6⟩
      case measure => simp [intOf]; omega
    · have hkn : vsT us k = vsenc us := by unfold vsT vsenc; rw [List.take_of_length_le (by have := Hlen.out; omega)]
      clear hx ho
      have hO := HO.out
      rw [hkn] at hO ⊢
      have HO2 := Lib.hid hO
      clear hO HO
      go_wp2_with fail
      go_ret
      exact ⟨A2, c2, rfl, HX.out, HO2.out⟩
end Go.Proofs.YtjomgppbialeoaaDoor
