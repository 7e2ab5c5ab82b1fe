/-
  The walks of varint.Encode and of the reference's Encode.
-/
import Derived.Test.YtjajbbgebblalaaGreatDoorBytesW
namespace Go.Proofs.YtjajbbgebblalaaGreatDoor
open Go.RowKit
set_option linter.unusedVariables false
set_option linter.unusedSimpArgs false
theorem or128 (m : Nat) : bits BinOp.or IntKind.u8 ((m : Int) % 256) 128 = ((UInt8.ofNat (128 + m % 128)).toNat : Nat) := by
  have h1 : ((m : Int) % 256) = ((m % 256 : Nat) : Int) := by omega
  have h2 : ∀ x : Fin 256, bits BinOp.or IntKind.u8 ((x.val : Nat) : Int) 128 = ((128 + x.val % 128 : Nat) : Int) := by decide +kernel
  rw [h1, h2 ⟨m % 256, by omega⟩, toNat_ofNat (by omega)]
  simp only
  omega
def VEncR (W : World) (u : Nat) (c0 c3 : Value) (wr : World) : Prop :=
  ∃ (m : Nat) (pre : List UInt8) (A : Option Addr) (c : Nat), c0 = .int .u64 m ∧ c3 = .slice A pre.length c ∧ m ≤ 18446744073709551615 ∧ pre ++ venc m = venc u ∧ Ext W wr ∧ W.heap.size ≤ wr.heap.size ∧ wr.ownsRow W.heap.size 5 1 (.slice A pre.length c) pre.length (u8s pre)
set_option maxRecDepth 100000 in
set_option maxHeartbeats 1000000 in
theorem venc_any (u : Nat) (w : World) (hu : u ≤ 18446744073709551615) : Calls Tryz.prog 81 #[.int .u64 (u : Nat)] w (NewB w (venc u)) := by
  have hl := venc_len10 u (by omega)
  have hmk : ∀ w, (Instr.makeSlice 36 (.int .i64 0) (.int .i64 10)).run Tryz.prog w = .ok (.slice (some ⟨w.heap.size, 0, none⟩) 0 10) (w.alloc (.cells (madeCells #[.int .u8 0] 10) 5)) := fun _ => by kernel_rfl
  go_enter Tryz.func81, Tryz.ntmps81
  go_wp2_with fail
  go_loopw [0, 3] (fun c0 c3 wr => VEncR w u c0 c3 wr) (fun c0 _ _ => (intOf c0).toNat)
  case atStart => exact ⟨u, [], _, _, rfl, rfl, hu, rfl, (by repeat (first | with_reducible exact Below.refl _ _ | with_reducible assumption | with_reducible refine ExtD ?_ | with_reducible refine ExtDN ?_ | with_reducible refine ExtA ?_ | (with_reducible refine ExtR ?_ ?_; (first | omega | (dsimp only; omega) | (simp; done) | (simp; omega))) | (with_reducible refine ExtS ?_ ?_; (first | omega | (dsimp only; omega) | (simp; done) | (simp; omega))) | with_reducible refine Ext.tr ?_ (by with_reducible assumption))), by simp, World.ownsRow_made w _ 10 (Nat.le_refl _) (by decide) (by simp [madeCells])⟩
  case round =>
    obtain ⟨m, pre, A0, c0, rfl, rfl, hm, hp, hx, hs, hown⟩ := hrel
    have Hp := Lib.hid hp
    have hpl : pre.length + (venc m).length ≤ 10 := by rw [← hp, List.length_append] at hl; exact hl
    clear hp
    have Hm := Lib.hid hm
    have Hu := Lib.hid hu
    clear hm hu
    by_cases h : m < 128
    · have hb := venc_lo h
      have Hb := Lib.hid (show pre ++ [UInt8.ofNat m] = venc u by rw [← hb]; exact Hp.out)
      have e0 : (m : Int) = ((UInt8.ofNat m).toNat : Nat) := by rw [toNat_ofNat (by omega)]
      have R0 := fun W : World => rd_byte W (m : Int) _ e0
      clear hb e0
      go_wp2_with (at_builtin; go_must (refine wpB_append rfl (.tmp 15) (.tmp 18) rfl w rfl (hown.alloc _) (ExtA hx) rfl (R0 _) (by simp; omega) ?_); intro A2 n2 c2 w2 hx2 hn2 hown2 hk2 hg2)
      go_ret
      rw [hn2.out, Hb.out] at hown2 ⊢
      exact ⟨A2, c2, rfl, hx2, hown2⟩
    · have hb := venc_hi h
      have Hb := Lib.hid (show (pre ++ [UInt8.ofNat (128 + m % 128)]) ++ venc (m / 128) = venc u by rw [List.append_assoc, List.singleton_append, ← hb]; exact Hp.out)
      clear hb
      have R0 := fun W : World => rd_byte W _ _ (or128 m)
      go_wp2_with (at_builtin; go_must (refine wpB_append rfl (.tmp 7) (.tmp 11) rfl w rfl (hown.alloc _) (ExtA hx) rfl (R0 _) (by simp; omega) ?_); intro A2 n2 c2 w2 hx2 hn2 hown2 hk2 hg2)
      go_roundw
      case rel =>
        rw [hn2.out] at hown2 ⊢
        exact ⟨m / 128, _, A2, c2, by go_num, rfl, by have := Hm.out; omega, Hb.out, hx2, hx2.size, hown2⟩
      case measure => simp [intOf]; omega
theorem own_lit (w : World) (x : Int) (c : UInt8) (h : x = (c.toNat : Nat)) : (w.alloc (.cells #[.int .u8 x] 5)).ownsRow w.heap.size 5 1 (.slice (some ⟨w.heap.size, 0, none⟩) 1 1) 1 (u8s [c]) := by
  subst h
  exact own_new w w.heap.size #[_] _ 1 (Nat.le_refl _) (by decide) rfl
theorem u8v {n : Nat} (h : n < 256) : (n : Int) = ((UInt8.ofNat n).toNat : Nat) := by rw [toNat_ofNat h]
set_option maxRecDepth 100000 in
set_option maxHeartbeats 1000000 in
theorem rvenc_any (u : Nat) (w : World) (hu : u ≤ 18446744073709551615) : Calls Tryz.prog 76 #[.int .u64 (u : Nat)] w (NewB w (venc u)) := by
  induction u using Nat.strongRecOn generalizing w with
  | _ u ih =>
    by_cases h : u < 128
    · have Hb := Lib.hid (venc_lo h)
      have e0 := Lib.hid (u8v (show u < 256 by omega))
      go_enter Tryz.func76, Tryz.ntmps76
      go_wp2_with fail
      go_ret
      unfold NewB
      rw [Hb.out]
      exact ⟨_, 1, rfl, (by repeat (first | with_reducible exact Below.refl _ _ | with_reducible assumption | with_reducible refine ExtD ?_ | with_reducible refine ExtDN ?_ | with_reducible refine ExtA ?_ | (with_reducible refine ExtR ?_ ?_; (first | omega | (dsimp only; omega) | (simp; done) | (simp; omega))) | (with_reducible refine ExtS ?_ ?_; (first | omega | (dsimp only; omega) | (simp; done) | (simp; omega))) | with_reducible refine Ext.tr ?_ (by with_reducible assumption))), own_lit w _ _ e0.out⟩
    · have Hb := Lib.hid (venc_hi h)
      have e0 : Hid (128 + (u : Int) % 128 = ((UInt8.ofNat (128 + u % 128)).toNat : Nat)) := Lib.hid (by rw [← u8v (show 128 + u % 128 < 256 by omega)]; omega)
      have Hl := Lib.hid (venc_len10 u (by omega))
      have i : ∀ W, Calls Tryz.prog 76 #[.int .u64 ((u : Int) / 128)] W (NewB W (venc (u / 128))) := fun W => ih (u / 128) (by omega) W (by omega)
      have Hi := Lib.hid i
      clear ih i
      go_enter Tryz.func76, Tryz.ntmps76
      go_wp2_with (first
        | (go_at_call 76; go_must (with_reducible refine (Hi.out _).mono ?_); rintro e w1 ⟨A1, c1, rfl, hx1, hown1⟩; have Hp := Lib.hid (venc_len10 (u / 128) (by omega)); have hxw : Ext w w1 := (by repeat (first | with_reducible exact Below.refl _ _ | with_reducible assumption | with_reducible refine ExtD ?_ | with_reducible refine ExtDN ?_ | with_reducible refine ExtA ?_ | (with_reducible refine ExtR ?_ ?_; (first | omega | (dsimp only; omega) | (simp; done) | (simp; omega))) | (with_reducible refine ExtS ?_ ?_; (first | omega | (dsimp only; omega) | (simp; done) | (simp; omega))) | with_reducible refine Ext.tr ?_ (by with_reducible assumption))))
        | (at_builtin; go_must (refine wpB_append rfl (.tmp 12) (.tmp 15) rfl w rfl (own_ext hx1 (own_lit w _ _ e0.out)) hxw rfl (rd_own hown1) (by have := Hp.out; simp; omega) ?_); intro A2 n2 c2 w2 hx2 hn2 hown2 hk2 hg2))
      go_ret
      unfold NewB
      rw [hn2.out] at hown2 ⊢
      rw [Hb.out]
      exact ⟨A2, c2, rfl, hx2, hown2⟩
end Go.Proofs.YtjajbbgebblalaaGreatDoor
