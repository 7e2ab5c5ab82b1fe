/-
  The walks of the cursor's num.
-/
import Derived.Test.YtipdilmlodakoaaVarD
import Derived.Test.YtipdilmlodakoaaFldW
import Derived.Test.YtipdilmlodakoaaFsA
import Derived.Test.YtipdilmlodakoaaPanW
namespace Go.Proofs.Ytipdilmlodakoaa
open Go.RowKit
set_option linter.unusedVariables false
set_option linter.unusedSimpArgs false
def curA (A : Option Addr) (n c at_ : Nat) : Array Value := #[.slice A n c, .int .i64 (at_ : Nat)]
theorem quiet_dec {A : Option Addr} {n c : Nat} {l : List UInt8} {w : World} {k : Nat} (h : ∀ W : World, Rd W A n (u8s l) → Calls Try.prog 51 #[.slice A n c] W fun e w' => e = DecT (vdec l) ∧ W = w') (hr : Rd w A n (u8s l)) :
    Calls Try.prog 51 #[.slice A n c] (w.drewN k) fun e w'' => e = DecT (vdec l) ∧ ∃ m, w'' = w.drewN m :=
  (h (w.drewN k) (drawn_keep hr)).mono fun _ _ ⟨he, hm⟩ => ⟨he, k, hm.symm⟩
def NumOk (w : World) (g : Nat) (cs : Array Value) (v : Nat) (e : Ending) (w' : World) : Prop := e = .returned (.int .u64 (v : Nat)) ∧ w.grownBy w' (some g) ∧ Blk w' g 116 cs
set_option maxRecDepth 100000 in
set_option maxHeartbeats 1000000 in
theorem num_ok (A : Option Addr) (n c at_ g : Nat) (l : List UInt8) (w : World) (hb : Blk w g 116 (curA A n c at_)) (hr : Rd w A n (u8s l)) (hat : at_ ≤ n) (hnc : n ≤ c) (hn : n ≤ 1024) (v k : Nat) (hv : vdec (l.drop at_) = (v, k, 0)) :
    Calls Try.prog 93 #[.pointer (some ⟨g, 0, none⟩)] w (NumOk w g (curA A n c (at_ + k)) v) := by
  have hll : l.length = n := by have := hr.1; rw [u8s_len] at this; exact this
  obtain ⟨A', hsl, hrd⟩ := slice_lo A n c at_ hat hnc
  have hk : at_ + k ≤ n := by
    obtain ⟨r, h1, h2, _⟩ := vdec_inv hv
    have := congrArg List.length h1
    simp at this
    omega
  have Hd : Hid (∀ d, Calls Try.prog 51 #[.slice A' (n - at_) (c - at_)] (w.drewN d) fun e w'' => e = .returned (.tuple #[.int .u64 (v : Nat), .int .i64 (k : Nat), .int .i64 0]) ∧ ∃ m, w'' = w.drewN m) :=
    Lib.hid fun d => by
      have := quiet_dec (k := d) (fun W h => vdec_any A' (n - at_) (c - at_) _ W h (by simp only [maxLen]; omega)) (hrd w l hr)
      rw [hv] at this
      exact this
  have c0 : w.cell? ⟨g, 0, none⟩ = some (.slice A n c) := hb.cell 0
  have c1 : w.cell? ⟨g, 1, none⟩ = some (.int .i64 (at_ : Nat)) := hb.cell 1
  have f1 := hb.frozen 1
  have Hb := Lib.hid hb
  have Hll := Lib.hid hll
  clear hv hrd hr hll hb
  go_enter Try.func93, Try.ntmps93
  go_wp2_with fail
  go_quiet ((go_at_call 51; exact Hd.out _))
  go_wp2_with fail
  go_ret
  exact ⟨rfl, grown_set (grown_drewN (World.grownBy.refl w _) _) _, BlkS (BlkDN Hb.out)⟩
def NumBad (w : World) (g E : Nat) (e : Ending) (w' : World) : Prop := e = ErrPanic E ∧ w.grownBy w' (some g)
set_option maxRecDepth 100000 in
set_option maxHeartbeats 1000000 in
theorem num_bad (A : Option Addr) (n c at_ g : Nat) (l : List UInt8) (w : World) (hb : Blk w g 116 (curA A n c at_)) (hr : Rd w A n (u8s l)) (hat : at_ ≤ n) (hnc : n ≤ c) (hn : n ≤ 1024) (E : Nat) (hv : (vdec (l.drop at_)).2.2 = E) (hE : E ≠ 0) :
    Calls Try.prog 93 #[.pointer (some ⟨g, 0, none⟩)] w (NumBad w g E) := by
  obtain ⟨A', hsl, hrd⟩ := slice_lo A n c at_ hat hnc
  obtain ⟨v, hv1⟩ : ∃ v, v = (vdec (l.drop at_)).1 := ⟨_, rfl⟩
  obtain ⟨k, hv2⟩ : ∃ k, k = (vdec (l.drop at_)).2.1 := ⟨_, rfl⟩
  have Hd : Hid (∀ d, Calls Try.prog 51 #[.slice A' (n - at_) (c - at_)] (w.drewN d) fun e w'' => e = .returned (.tuple #[.int .u64 (v : Nat), .int .i64 (k : Nat), .int .i64 (E : Nat)]) ∧ ∃ m, w'' = w.drewN m) :=
    Lib.hid fun d => by
      have := quiet_dec (k := d) (fun W h => vdec_any A' (n - at_) (c - at_) _ W h (by simp only [maxLen]; omega)) (hrd w l hr)
      unfold DecT at this
      rw [hv, ← hv1, ← hv2] at this
      exact this
  have c0 : w.cell? ⟨g, 0, none⟩ = some (.slice A n c) := hb.cell 0
  have c1 : w.cell? ⟨g, 1, none⟩ = some (.int .i64 (at_ : Nat)) := hb.cell 1
  have t0 : ((E : Int) != 0) = true := by simp; exact hE
  clear hv hrd hr hb hv1 hv2 hE
  go_enter Try.func93, Try.ntmps93
  go_wp2_with fail
  go_quiet ((go_at_call 51; exact Hd.out _))
  go_wp2_with fail
  exact ⟨rfl, rfl, grown_drewN (World.grownBy.refl w _) _⟩
end Go.Proofs.Ytipdilmlodakoaa
