/-
  The walks of the cursor's num.
-/
/-
  The walks of the cursor's field.
-/
/-
  The walk of the cursor's field, where the field is right.
-/
/-
  The walk of tlv.Decode.
-/
/-
  The walk of tlv.Decode.
-/
import Derived.Test.YtjajbbgebblalaaGreatDoorVarW
import Derived.Test.YtjajbbgebblalaaGreatDoorFldW
import Derived.Test.YtjajbbgebblalaaGreatDoorFsW
import Derived.Test.YtjajbbgebblalaaGreatDoorPanW
import Derived.Deep.RegionHeld3
import Derived.Defers
import Derived.Recover
import Derived.Deep.LoopGhost
namespace Go.Proofs.YtjajbbgebblalaaGreatDoor
open Go.RowKit
set_option linter.unusedVariables false
set_option linter.unusedSimpArgs false
def curA (A : Option Addr) (n c at_ : Nat) : Array Value := #[.slice A n c, .int .i64 (at_ : Nat)]
theorem quiet_dec {A : Option Addr} {n c : Nat} {l : List UInt8} {w : World} {k : Nat} (h : ∀ W : World, Rd W A n (u8s l) → Calls Tryz.prog 131 #[.slice A n c] W fun e w' => e = DecT (vdec l) ∧ W = w') (hr : Rd w A n (u8s l)) :
    Calls Tryz.prog 131 #[.slice A n c] (w.drewN k) fun e w'' => e = DecT (vdec l) ∧ ∃ m, w'' = w.drewN m :=
  (h (w.drewN k) (drawn_keep hr)).mono fun _ _ ⟨he, hm⟩ => ⟨he, k, hm.symm⟩
def NumOk (w : World) (g : Nat) (cs : Array Value) (v : Nat) (e : Ending) (w' : World) : Prop := e = .returned (.int .u64 (v : Nat)) ∧ w.grownBy w' (some g) ∧ Blk w' g 292 cs
set_option maxRecDepth 100000 in
set_option maxHeartbeats 1000000 in
theorem num_ok (A : Option Addr) (n c at_ g : Nat) (l : List UInt8) (w : World) (hb : Blk w g 292 (curA A n c at_)) (hr : Rd w A n (u8s l)) (hat : at_ ≤ n) (hnc : n ≤ c) (hn : n ≤ 1024) (v k : Nat) (hv : vdec (l.drop at_) = (v, k, 0)) :
    Calls Tryz.prog 241 #[.pointer (some ⟨g, 0, none⟩)] w (NumOk w g (curA A n c (at_ + k)) v) := by
  have hll : l.length = n := by have := hr.1; rw [u8s_len] at this; exact this
  obtain ⟨A', hsl, hrd⟩ := slice_lo A n c at_ hat hnc
  have hk : at_ + k ≤ n := by
    obtain ⟨r, h1, h2, _⟩ := vdec_inv hv
    have := congrArg List.length h1
    simp at this
    omega
  have Hd : Hid (∀ d, Calls Tryz.prog 131 #[.slice A' (n - at_) (c - at_)] (w.drewN d) fun e w'' => e = .returned (.tuple #[.int .u64 (v : Nat), .int .i64 (k : Nat), .int .i64 0]) ∧ ∃ m, w'' = w.drewN m) :=
    Lib.hid fun d => by
      have := quiet_dec (k := d) (fun W h => vdec_any A' (n - at_) (c - at_) _ W h (by simp only [maxLen]; omega)) (hrd w l hr)
      rw [hv] at this
      exact this
  have c0 : w.cell? ⟨g, 0, none⟩ = some (.slice A n c) := hb.cell 0
  have c1 : w.cell? ⟨g, 1, none⟩ = some (.int .i64 (at_ : Nat)) := hb.cell 1
  have f1 := hb.frozen 1
  have Hb := Lib.hid hb
  have Hll := Lib.hid hll
  clear hv hrd hr hll hb
  go_enter Tryz.func241, Tryz.ntmps241
  go_wp2_with fail
  go_quiet ((go_at_call 131; exact Hd.out _))
  go_wp2_with fail
  go_ret
  exact ⟨rfl, grown_set (grown_drewN (World.grownBy.refl w _) _) _, BlkS (BlkDN Hb.out)⟩
def NumBad (w : World) (g E : Nat) (e : Ending) (w' : World) : Prop := e = ErrPanic E ∧ w.grownBy w' (some g)
set_option maxRecDepth 100000 in
set_option maxHeartbeats 1000000 in
theorem num_bad (A : Option Addr) (n c at_ g : Nat) (l : List UInt8) (w : World) (hb : Blk w g 292 (curA A n c at_)) (hr : Rd w A n (u8s l)) (hat : at_ ≤ n) (hnc : n ≤ c) (hn : n ≤ 1024) (E : Nat) (hv : (vdec (l.drop at_)).2.2 = E) (hE : E ≠ 0) :
    Calls Tryz.prog 241 #[.pointer (some ⟨g, 0, none⟩)] w (NumBad w g E) := by
  obtain ⟨A', hsl, hrd⟩ := slice_lo A n c at_ hat hnc
  obtain ⟨v, hv1⟩ : ∃ v, v = (vdec (l.drop at_)).1 := ⟨_, rfl⟩
  obtain ⟨k, hv2⟩ : ∃ k, k = (vdec (l.drop at_)).2.1 := ⟨_, rfl⟩
  have Hd : Hid (∀ d, Calls Tryz.prog 131 #[.slice A' (n - at_) (c - at_)] (w.drewN d) fun e w'' => e = .returned (.tuple #[.int .u64 (v : Nat), .int .i64 (k : Nat), .int .i64 (E : Nat)]) ∧ ∃ m, w'' = w.drewN m) :=
    Lib.hid fun d => by
      have := quiet_dec (k := d) (fun W h => vdec_any A' (n - at_) (c - at_) _ W h (by simp only [maxLen]; omega)) (hrd w l hr)
      unfold DecT at this
      rw [hv, ← hv1, ← hv2] at this
      exact this
  have c0 : w.cell? ⟨g, 0, none⟩ = some (.slice A n c) := hb.cell 0
  have c1 : w.cell? ⟨g, 1, none⟩ = some (.int .i64 (at_ : Nat)) := hb.cell 1
  have t0 : ((E : Int) != 0) = true := by simp; exact hE
  clear hv hrd hr hb hv1 hv2 hE
  go_enter Tryz.func241, Tryz.ntmps241
  go_wp2_with fail
  go_quiet ((go_at_call 131; exact Hd.out _))
  go_wp2_with fail
  exact ⟨rfl, rfl, grown_drewN (World.grownBy.refl w _) _⟩
end Go.Proofs.YtjajbbgebblalaaGreatDoor

namespace Go.Proofs.YtjajbbgebblalaaGreatDoor
open Go.RowKit
set_option linter.unusedVariables false
set_option linter.unusedSimpArgs false
theorem vdec_eta (l : List UInt8) : vdec l = ((vdec l).1, (vdec l).2.1, (vdec l).2.2) := rfl
/-- The field that is being read. -/
def halfA (T : Nat) (p : Bool) (u : Int) (A : Option Addr) (m c : Nat) : Array Value := #[.int .i64 (T : Nat), .bool p, .int .u64 u, .slice A m c]
set_option maxRecDepth 100000 in
set_option maxHeartbeats 4000000 in
theorem field_bad (W0 : World) (A : Option Addr) (n c at_ g : Nat) (last : Int) (l : List UInt8) (w : World) (hb : Blk w g 292 (curA A n c at_)) (hr : Rd W0 A n (u8s l)) (hx : Ext W0 w) (hg : W0.heap.size ≤ g) (hat : at_ ≤ n) (hnc : n ≤ c) (hn : n ≤ 1024) (hlo : 0 ≤ last) (hhi : last ≤ 31) (E : Nat) (hv : (next (l.drop at_) last).2.2 = E) (hE : E ≠ 0) :
    Calls Tryz.prog 219 #[.pointer (some ⟨g, 0, none⟩), .int .i64 last] w (NumBad w g E) := by
  have hll : l.length = n := by have := hr.1; rw [u8s_len] at this; exact this
  have Hgw := Lib.hid hb.lt
  have Hg := Lib.hid hg
  have hx0 : Hid (Ext w (w.alloc (.cells #[.int .i64 0, .bool false, .int .u64 0, .slice none 0 0] 210))) := Lib.hid (by repeat (first | with_reducible exact Below.refl _ _ | with_reducible assumption | with_reducible refine ExtD ?_ | with_reducible refine ExtDN ?_ | with_reducible refine ExtA ?_ | (with_reducible refine ExtR ?_ ?_; (first | omega | (dsimp only; omega) | (simp; done) | (simp; omega))) | (with_reducible refine ExtS ?_ ?_; (first | omega | (dsimp only; omega) | (simp; done) | (simp; omega))) | with_reducible refine Ext.tr ?_ (by with_reducible assumption)))
  obtain ⟨⟨v, k, e⟩, hk⟩ : ∃ x, x = vdec (l.drop at_) := ⟨_, rfl⟩
  unfold next at hv
  rw [← hk] at hv
  dsimp only at hv
  by_cases he : e = 0
  · subst he
    rw [if_neg (by simp)] at hv
    have K1 := Lib.hid (fun w1 (h1 : Ext w w1) => num_ok A n c at_ g l w1 (h1.blk hb) (hr.ext (hx.tr h1)) hat hnc hn v k hk.symm)
    by_cases h63 : 63 < v
    · rw [if_pos (.inr h63)] at hv
      subst hv
      clear hk hr hb hll hE hg
      go_enter Tryz.func219, Tryz.ntmps219
      go_wp2_with (go_at_call 241; go_must (with_reducible refine (K1.out _ hx0.out).mono ?_); rintro e w1 ⟨rfl, hg1, b1⟩)
      exact ⟨rfl, rfl, (by repeat (first | with_reducible exact World.grownBy.refl _ _ | with_reducible assumption | with_reducible refine GrD ?_ | with_reducible refine GrDN ?_ | with_reducible refine GrA ?_ | with_reducible refine grown_set ?_ _ | (with_reducible refine GrN ?_ ?_; (first | omega | (dsimp only; omega) | (simp; done) | (simp; omega))) | (with_reducible refine GrR ?_ ?_; (first | omega | (dsimp only; omega) | (simp; done) | (simp; omega))) | with_reducible refine World.grownBy.trans ?_ (by with_reducible assumption)))⟩
    obtain ⟨T, hT⟩ : ∃ T, T = v / 2 := ⟨_, rfl⟩
    have dT : (v : Int) / 2 = (T : Int) := by omega
    have hT31 : T ≤ 31 := by omega
    have HT := Lib.hid hT
    by_cases h2 : v < 2
    · rw [if_pos (.inl h2)] at hv
      subst hv
      have hT0 : T = 0 := by omega
      clear hk hr hb hll hE hT hg
      go_enter Tryz.func219, Tryz.ntmps219
      go_wp2_with (go_at_call 241; go_must (with_reducible refine (K1.out _ hx0.out).mono ?_); rintro e w1 ⟨rfl, hg1, b1⟩)
      exact ⟨rfl, rfl, (by repeat (first | with_reducible exact World.grownBy.refl _ _ | with_reducible assumption | with_reducible refine GrD ?_ | with_reducible refine GrDN ?_ | with_reducible refine GrA ?_ | with_reducible refine grown_set ?_ _ | (with_reducible refine GrN ?_ ?_; (first | omega | (dsimp only; omega) | (simp; done) | (simp; omega))) | (with_reducible refine GrR ?_ ?_; (first | omega | (dsimp only; omega) | (simp; done) | (simp; omega))) | with_reducible refine World.grownBy.trans ?_ (by with_reducible assumption)))⟩
    rw [if_neg (by omega), ← hT] at hv
    have hT1 : 1 ≤ T := by omega
    obtain ⟨p, hp⟩ : ∃ p, p = decide (v % 2 = 1) := ⟨_, rfl⟩
    have dp : ((v : Int) % 2 == 1) = p := by
      rw [hp]
      by_cases h : v % 2 = 1
      · simp only [h, decide_true]; simp; omega
      · simp only [h, decide_false]; simp; omega
    have tT : ((T : Int) == 0) = false := by simp; omega
    by_cases hl : (T : Int) ≤ last
    · rw [if_pos hl] at hv
      subst hv
      clear hk hr hb hll hE hT hp hg
      go_enter Tryz.func219, Tryz.ntmps219
      go_wp2_with (go_at_call 241; go_must (with_reducible refine (K1.out _ hx0.out).mono ?_); rintro e w1 ⟨rfl, hg1, b1⟩)
      exact ⟨rfl, rfl, (by repeat (first | with_reducible exact World.grownBy.refl _ _ | with_reducible assumption | with_reducible refine GrD ?_ | with_reducible refine GrDN ?_ | with_reducible refine GrA ?_ | with_reducible refine grown_set ?_ _ | (with_reducible refine GrN ?_ ?_; (first | omega | (dsimp only; omega) | (simp; done) | (simp; omega))) | (with_reducible refine GrR ?_ ?_; (first | omega | (dsimp only; omega) | (simp; done) | (simp; omega))) | with_reducible refine World.grownBy.trans ?_ (by with_reducible assumption)))⟩
    rw [if_neg hl, List.drop_drop] at hv
    have hk2 : at_ + k ≤ n := by
      obtain ⟨r, h1, h2, _⟩ := vdec_inv hk.symm
      have := congrArg List.length h1
      simp at this
      omega
    obtain ⟨⟨u, k2, e2⟩, hu⟩ : ∃ x, x = vdec (l.drop (at_ + k)) := ⟨_, rfl⟩
    rw [← hu] at hv
    dsimp only at hv
    by_cases he2 : e2 = 0
    · subst he2
      rw [if_neg (by simp)] at hv
      have K2 := Lib.hid (fun w2 (h1 : Ext W0 w2) (hb2 : Blk w2 g 292 (curA A n c (at_ + k))) => num_ok A n c (at_ + k) g l w2 hb2 (hr.ext h1) hk2 hnc hn u k2 hu.symm)
      obtain ⟨x, hx2⟩ : ∃ x, x = at_ + k + k2 := ⟨_, rfl⟩
      rw [← hx2] at K2
      have hxn : x ≤ n := by
        obtain ⟨r, h1, h2, _⟩ := vdec_inv hu.symm
        have := congrArg List.length h1
        simp at this
        omega
      by_cases hu0 : u = 0
      · rw [if_pos hu0] at hv
        subst hv
        have tu : ((u : Int) == 0) = true := by simp [hu0]
        clear hk hr hb hll hE hT hp hg hu hu0 hx2
        go_enter Tryz.func219, Tryz.ntmps219
        go_wp2_with (first
          | (go_at_call 241; (with_reducible refine (K1.out _ hx0.out).mono ?_); rintro e w1 ⟨rfl, hg1, b1⟩; have hW1 : Ext W0 w1 := Ext.grown (hx.tr hx0.out) hg1 (fun r hr => by cases hr; exact Hg.out); have hgz := hg1.size; have b1' : Blk (w1.alloc (.cells (halfA T p 0 none 0 0) 210)) g 292 (curA A n c (at_ + k)) := BlkA b1; have hW1' : Ext W0 (w1.alloc (.cells (halfA T p 0 none 0 0) 210)) := ExtA hW1; unfold halfA at b1' hW1')
          | (go_at_call 241; go_must (with_reducible refine (K2.out _ hW1' b1').mono ?_); rintro e w2 ⟨rfl, hg2, b2⟩))
        exact ⟨rfl, rfl, (by repeat (first | with_reducible exact World.grownBy.refl _ _ | with_reducible assumption | with_reducible refine GrD ?_ | with_reducible refine GrDN ?_ | with_reducible refine GrA ?_ | with_reducible refine grown_set ?_ _ | (with_reducible refine GrN ?_ ?_; (first | omega | (dsimp only; omega) | (simp; done) | (simp; omega))) | (with_reducible refine GrR ?_ ?_; (first | omega | (dsimp only; omega) | (simp; done) | (simp; omega))) | with_reducible refine World.grownBy.trans ?_ (by with_reducible assumption)))⟩
      rw [if_neg hu0] at hv
      have tu : ((u : Int) == 0) = false := by simp; exact hu0
      by_cases hpar : v % 2 = 0
      · rw [if_pos hpar] at hv; exact absurd hv.symm hE
      rw [if_neg hpar] at hv
      obtain rfl : p = true := by rw [hp]; simp; omega
      have u200 := Lib.hid (show u ≤ 18446744073709551615 by have := (vdec_inv hu.symm); obtain ⟨_, _, _, h⟩ := this; omega)
      by_cases h200 : 200 < u
      · rw [if_pos h200] at hv
        subst hv
        clear hk hr hb hll hE hT hp hg hu hu0 hx2 hpar
        go_enter Tryz.func219, Tryz.ntmps219
        go_wp2_with (first
          | (go_at_call 241; (with_reducible refine (K1.out _ hx0.out).mono ?_); rintro e w1 ⟨rfl, hg1, b1⟩; have hW1 : Ext W0 w1 := Ext.grown (hx.tr hx0.out) hg1 (fun r hr => by cases hr; exact Hg.out); have hgz := hg1.size; have b1' : Blk (w1.alloc (.cells (halfA T true 0 none 0 0) 210)) g 292 (curA A n c (at_ + k)) := BlkA b1; have hW1' : Ext W0 (w1.alloc (.cells (halfA T true 0 none 0 0) 210)) := ExtA hW1; unfold halfA at b1' hW1')
          | (go_at_call 241; (with_reducible refine (K2.out _ hW1' b1').mono ?_); rintro e w2 ⟨rfl, hg2, b2⟩; have hgw2 : g ≠ w1.heap.size := (by have h1 := Hgw.out; have h2 := hx0.out.size; omega); have b6 : Blk w2 w1.heap.size 210 (halfA T true 0 none 0 0) := BlkG (BlkN rfl) hg2 (fun h => hgw2 (Option.some.inj h).symm); have e6_1 : w2.cell? ⟨w1.heap.size, 1, none⟩ = some (.bool true) := b6.cell 1; have d0 : w2.cell? ⟨g, 0, none⟩ = some (.slice A n c) := b2.cell 0; have d1 : w2.cell? ⟨g, 1, none⟩ = some (.int .i64 (x : Nat)) := b2.cell 1))
        exact ⟨rfl, rfl, (by repeat (first | with_reducible exact World.grownBy.refl _ _ | with_reducible assumption | with_reducible refine GrD ?_ | with_reducible refine GrDN ?_ | with_reducible refine GrA ?_ | with_reducible refine grown_set ?_ _ | (with_reducible refine GrN ?_ ?_; (first | omega | (dsimp only; omega) | (simp; done) | (simp; omega))) | (with_reducible refine GrR ?_ ?_; (first | omega | (dsimp only; omega) | (simp; done) | (simp; omega))) | with_reducible refine World.grownBy.trans ?_ (by with_reducible assumption)))⟩
      rw [if_neg h200] at hv
      by_cases hsh : (l.drop at_).length - k - k2 < u
      · rw [if_pos hsh] at hv
        subst hv
        obtain ⟨r, hr2⟩ : ∃ r, r = n - x := ⟨_, rfl⟩
        have hru : r < u := by rw [List.length_drop] at hsh; omega
        have R1 : IntKind.i64.wrap ((n : Int) - (x : Int)) = (r : Int) := by rw [IntKind.wrap_i64]; omega
        have R2 : IntKind.u64.wrap (r : Int) = (r : Int) := by rw [IntKind.wrap_u64]; omega
        clear hk hr hb hll hE hT hp hg hu hu0 hx2 hpar hsh hr2
        go_enter Tryz.func219, Tryz.ntmps219
        go_wp2_with (first
          | (go_at_call 241; (with_reducible refine (K1.out _ hx0.out).mono ?_); rintro e w1 ⟨rfl, hg1, b1⟩; have hW1 : Ext W0 w1 := Ext.grown (hx.tr hx0.out) hg1 (fun r hr => by cases hr; exact Hg.out); have hgz := hg1.size; have b1' : Blk (w1.alloc (.cells (halfA T true 0 none 0 0) 210)) g 292 (curA A n c (at_ + k)) := BlkA b1; have hW1' : Ext W0 (w1.alloc (.cells (halfA T true 0 none 0 0) 210)) := ExtA hW1; unfold halfA at b1' hW1')
          | (go_at_call 241; (with_reducible refine (K2.out _ hW1' b1').mono ?_); rintro e w2 ⟨rfl, hg2, b2⟩; have hgw2 : g ≠ w1.heap.size := (by have h1 := Hgw.out; have h2 := hx0.out.size; omega); have b6 : Blk w2 w1.heap.size 210 (halfA T true 0 none 0 0) := BlkG (BlkN rfl) hg2 (fun h => hgw2 (Option.some.inj h).symm); have e6_1 : w2.cell? ⟨w1.heap.size, 1, none⟩ = some (.bool true) := b6.cell 1; have d0 : w2.cell? ⟨g, 0, none⟩ = some (.slice A n c) := b2.cell 0; have d1 : w2.cell? ⟨g, 1, none⟩ = some (.int .i64 (x : Nat)) := b2.cell 1))
        go_quiet (fail)
        go_wp2_with fail
        exact ⟨rfl, rfl, (by repeat (first | with_reducible exact World.grownBy.refl _ _ | with_reducible assumption | with_reducible refine GrD ?_ | with_reducible refine GrDN ?_ | with_reducible refine GrA ?_ | with_reducible refine grown_set ?_ _ | (with_reducible refine GrN ?_ ?_; (first | omega | (dsimp only; omega) | (simp; done) | (simp; omega))) | (with_reducible refine GrR ?_ ?_; (first | omega | (dsimp only; omega) | (simp; done) | (simp; omega))) | with_reducible refine World.grownBy.trans ?_ (by with_reducible assumption)))⟩
      · rw [if_neg hsh] at hv
        exact absurd hv.symm hE
    · have K2 := Lib.hid (fun w2 (h1 : Ext W0 w2) (hb2 : Blk w2 g 292 (curA A n c (at_ + k))) => num_bad A n c (at_ + k) g l w2 hb2 (hr.ext h1) hk2 hnc hn e2 (by rw [← hu]) he2)
      rw [if_pos he2] at hv
      subst hv
      clear hk hr hb hll hE hT hp hg hu he2
      go_enter Tryz.func219, Tryz.ntmps219
      go_wp2_with (first
        | (go_at_call 241; (with_reducible refine (K1.out _ hx0.out).mono ?_); rintro e w1 ⟨rfl, hg1, b1⟩; have hW1 : Ext W0 w1 := Ext.grown (hx.tr hx0.out) hg1 (fun r hr => by cases hr; exact Hg.out); have hgz := hg1.size; have b1' : Blk (w1.alloc (.cells (halfA T p 0 none 0 0) 210)) g 292 (curA A n c (at_ + k)) := BlkA b1; have hW1' : Ext W0 (w1.alloc (.cells (halfA T p 0 none 0 0) 210)) := ExtA hW1; unfold halfA at b1' hW1')
        | (go_at_call 241; go_must (with_reducible refine (K2.out _ hW1' b1').mono ?_); rintro e w2 ⟨he, hg2⟩; unfold ErrPanic at he; subst he))
      exact ⟨rfl, rfl, (by repeat (first | with_reducible exact World.grownBy.refl _ _ | with_reducible assumption | with_reducible refine GrD ?_ | with_reducible refine GrDN ?_ | with_reducible refine GrA ?_ | with_reducible refine grown_set ?_ _ | (with_reducible refine GrN ?_ ?_; (first | omega | (dsimp only; omega) | (simp; done) | (simp; omega))) | (with_reducible refine GrR ?_ ?_; (first | omega | (dsimp only; omega) | (simp; done) | (simp; omega))) | with_reducible refine World.grownBy.trans ?_ (by with_reducible assumption)))⟩
  · have K1 := Lib.hid (fun w1 (h1 : Ext w w1) => num_bad A n c at_ g l w1 (h1.blk hb) (hr.ext (hx.tr h1)) hat hnc hn e (by rw [← hk]) he)
    rw [if_pos he] at hv
    subst hv
    clear hk hr hb he hll hE hg
    go_enter Tryz.func219, Tryz.ntmps219
    go_wp2_with (go_at_call 241; go_must (with_reducible refine (K1.out _ hx0.out).mono ?_); rintro e w1 ⟨he, hg1⟩; unfold ErrPanic at he; subst he)
    exact ⟨rfl, rfl, (by repeat (first | with_reducible exact World.grownBy.refl _ _ | with_reducible assumption | with_reducible refine GrD ?_ | with_reducible refine GrDN ?_ | with_reducible refine GrA ?_ | with_reducible refine grown_set ?_ _ | (with_reducible refine GrN ?_ ?_; (first | omega | (dsimp only; omega) | (simp; done) | (simp; omega))) | (with_reducible refine GrR ?_ ?_; (first | omega | (dsimp only; omega) | (simp; done) | (simp; omega))) | with_reducible refine World.grownBy.trans ?_ (by with_reducible assumption)))⟩
end Go.Proofs.YtjajbbgebblalaaGreatDoor

namespace Go.Proofs.YtjajbbgebblalaaGreatDoor
open Go.RowKit
set_option linter.unusedVariables false
set_option linter.unusedSimpArgs false
def FieldOk (w : World) (g : Nat) (cs : Array Value) (f : Fld) (e : Ending) (w' : World) : Prop :=
  ∃ A c, e = .returned (.agg (fcells f A c)) ∧ w.grownBy w' (some g) ∧ Blk w' g 292 cs ∧ w'.ownsRow w.heap.size 5 1 (.slice A f.bytes.length c) f.bytes.length (u8s f.bytes)
theorem half_one (T : Nat) (p : Bool) (u : Int) (A : Option Addr) (m c : Nat) : ∀ v ∈ (halfA T p u A m c).toList, v.oneCell' = true := by
  intro v hv; simp [halfA] at hv; rcases hv with rfl | rfl | rfl | rfl <;> rfl
theorem blk_num {w : World} {g T : Nat} {p : Bool} {u u2 : Int} {A : Option Addr} {m c : Nat} (h : Blk w g 210 (halfA T p u A m c)) : Blk (w.setCell ⟨g, 2, none⟩ (.int .u64 u2)) g 210 (halfA T p u2 A m c) := BlkS h
theorem blk_bytes {w : World} {g T : Nat} {p : Bool} {u : Int} {A A2 : Option Addr} {m c m2 c2 : Nat} (h : Blk w g 210 (halfA T p u A m c)) : Blk (w.setCell ⟨g, 3, none⟩ (.slice A2 m2 c2)) g 210 (halfA T p u A2 m2 c2) := BlkS h
theorem blk4 {w w1 w2 : World} {g : Nat} {zs cs : Array Value} (hg : g < w.heap.size) (h1 : (w.alloc (.cells zs 210)).grownBy w1 (some g)) (h2 : (w1.alloc (.cells cs 210)).grownBy w2 (some g)) : Blk w2 w.heap.size 210 zs :=
  BlkG (BlkA (BlkG (BlkN rfl) h1 fun h => by have := Option.some.inj h; omega)) h2 fun h => by have := Option.some.inj h; omega
set_option maxRecDepth 100000 in
set_option maxHeartbeats 4000000 in
theorem field_ok (W0 : World) (A : Option Addr) (n c at_ g : Nat) (last : Int) (l : List UInt8) (w : World) (hb : Blk w g 292 (curA A n c at_)) (hr : Rd W0 A n (u8s l)) (hx : Ext W0 w) (hg : W0.heap.size ≤ g) (hat : at_ ≤ n) (hnc : n ≤ c) (hn : n ≤ 1024) (hlo : 0 ≤ last) (hhi : last ≤ 31) (f : Fld) (m : Nat) (hv : next (l.drop at_) last = (f, m, 0)) :
    Calls Tryz.prog 219 #[.pointer (some ⟨g, 0, none⟩), .int .i64 last] w (FieldOk w g (curA A n c (at_ + m)) f) := by
  have hll : l.length = n := by have := hr.1; rw [u8s_len] at this; exact this
  have Hgw := Lib.hid hb.lt
  have Hg := Lib.hid hg
  have hx0 : Hid (Ext w (w.alloc (.cells #[.int .i64 0, .bool false, .int .u64 0, .slice none 0 0] 210))) := Lib.hid (by repeat (first | with_reducible exact Below.refl _ _ | with_reducible assumption | with_reducible refine ExtD ?_ | with_reducible refine ExtDN ?_ | with_reducible refine ExtA ?_ | (with_reducible refine ExtR ?_ ?_; (first | omega | (dsimp only; omega) | (simp; done) | (simp; omega))) | (with_reducible refine ExtS ?_ ?_; (first | omega | (dsimp only; omega) | (simp; done) | (simp; omega))) | with_reducible refine Ext.tr ?_ (by with_reducible assumption)))
  obtain ⟨⟨v, k, e⟩, hk⟩ : ∃ x, x = vdec (l.drop at_) := ⟨_, rfl⟩
  unfold next at hv
  rw [← hk] at hv
  dsimp only at hv
  by_cases he : e = 0
  rotate_left
  · rw [if_pos he] at hv; injection hv with h1 h2; injection h2 with h3 h4; exact absurd h4 he
  subst he
  rw [if_neg (by simp)] at hv
  have K1 := Lib.hid (fun w1 (h1 : Ext w w1) => num_ok A n c at_ g l w1 (h1.blk hb) (hr.ext (hx.tr h1)) hat hnc hn v k hk.symm)
  by_cases h263 : v < 2 ∨ 63 < v
  · rw [if_pos h263] at hv; injection hv with h1 h2; injection h2 with h3 h4; cases h4
  rw [if_neg h263] at hv
  obtain ⟨T, hT⟩ : ∃ T, T = v / 2 := ⟨_, rfl⟩
  have dT : (v : Int) / 2 = (T : Int) := by omega
  have hT31 : T ≤ 31 := by omega
  have h63 : v ≤ 63 := by omega
  have hT1 : 1 ≤ T := by omega
  rw [← hT] at hv
  obtain ⟨p, hp⟩ : ∃ p, p = decide (v % 2 = 1) := ⟨_, rfl⟩
  have dp : ((v : Int) % 2 == 1) = p := by
    rw [hp]
    by_cases h : v % 2 = 1
    · simp only [h, decide_true]; simp; omega
    · simp only [h, decide_false]; simp; omega
  have tT : ((T : Int) == 0) = false := by simp; omega
  by_cases hl : (T : Int) ≤ last
  · rw [if_pos hl] at hv; injection hv with h1 h2; injection h2 with h3 h4; cases h4
  rw [if_neg hl, List.drop_drop] at hv
  have hk2 : at_ + k ≤ n := by
    obtain ⟨r, h1, h2, _⟩ := vdec_inv hk.symm
    have := congrArg List.length h1
    simp at this
    omega
  obtain ⟨⟨u, k2, e2⟩, hu⟩ : ∃ x, x = vdec (l.drop (at_ + k)) := ⟨_, rfl⟩
  rw [← hu] at hv
  dsimp only at hv
  by_cases he2 : e2 = 0
  rotate_left
  · rw [if_pos he2] at hv; injection hv with h1 h2; injection h2 with h3 h4; exact absurd h4 he2
  subst he2
  rw [if_neg (by simp)] at hv
  have K2 := Lib.hid (fun w2 (h1 : Ext W0 w2) (hb2 : Blk w2 g 292 (curA A n c (at_ + k))) => num_ok A n c (at_ + k) g l w2 hb2 (hr.ext h1) hk2 hnc hn u k2 hu.symm)
  obtain ⟨x, hx2⟩ : ∃ x, x = at_ + k + k2 := ⟨_, rfl⟩
  rw [← hx2] at K2
  have hxn : x ≤ n := by
    obtain ⟨r, h1, h2, _⟩ := vdec_inv hu.symm
    have := congrArg List.length h1
    simp at this
    omega
  by_cases hu0 : u = 0
  · rw [if_pos hu0] at hv; injection hv with h1 h2; injection h2 with h3 h4; cases h4
  rw [if_neg hu0] at hv
  have tu : ((u : Int) == 0) = false := by simp; exact hu0
  have u200 := Lib.hid (show u ≤ 18446744073709551615 by have := (vdec_inv hu.symm); obtain ⟨_, _, _, h⟩ := this; omega)
  by_cases hpar : v % 2 = 0
  · rw [if_pos hpar] at hv
    obtain rfl : p = false := by rw [hp]; simp; omega
    simp only [Prod.mk.injEq, and_true] at hv
    obtain ⟨hf, hm⟩ := hv
    have hatm : at_ + m = x := by omega
    rw [hatm]
    subst hf
    clear hk hr hb hll hT hp hg hu hu0 hx2 hpar hatm hm h263
    go_enter Tryz.func219, Tryz.ntmps219
    go_wp2_with (first
      | (go_at_call 241; (with_reducible refine (K1.out _ hx0.out).mono ?_); rintro e w1 ⟨rfl, hg1, b1⟩; have hW1 : Ext W0 w1 := Ext.grown (hx.tr hx0.out) hg1 (fun r hr => by cases hr; exact Hg.out); have hgz := hg1.size; have b1' : Blk (w1.alloc (.cells (halfA T false 0 none 0 0) 210)) g 292 (curA A n c (at_ + k)) := BlkA b1; have hW1' : Ext W0 (w1.alloc (.cells (halfA T false 0 none 0 0) 210)) := ExtA hW1; unfold halfA at b1' hW1')
      | ((go_at_call 241; (with_reducible refine (K2.out _ hW1' b1').mono ?_); rintro e w2 ⟨rfl, hg2, b2⟩; have hgw2 : g ≠ w1.heap.size := (by have h1 := Hgw.out; have h2 := hx0.out.size; omega); have b6 : Blk w2 w1.heap.size 210 (halfA T false 0 none 0 0) := BlkG (BlkN rfl) hg2 (fun h => hgw2 (Option.some.inj h).symm); have e6_1 : w2.cell? ⟨w1.heap.size, 1, none⟩ = some (.bool false) := b6.cell 1; have d0 : w2.cell? ⟨g, 0, none⟩ = some (.slice A n c) := b2.cell 0; have d1 : w2.cell? ⟨g, 1, none⟩ = some (.int .i64 (x : Nat)) := b2.cell 1); have e6_2 : w2.cell? ⟨w1.heap.size, 2, none⟩ = some (.int .u64 0) := b6.cell 2; have f6_2 := b6.frozen 2; have b4 := blk4 Hgw.out hg1 hg2; have n4 : w.heap.size ≠ w1.heap.size := (by simp at hgz; omega))
      | (refine wpL_load_row rfl 210 (.tmp 6) rfl w1.heap.size 210 (halfA T false u none 0 0) 4 rfl (blk_num b6) fld_wide rfl ?_)
      | (refine wpL_store_row rfl 210 (.tmp 4) (.tmp 41) rfl w.heap.size 210 #[.int .i64 0, .bool false, .int .u64 0, .slice none 0 0] (halfA T false u none 0 0) rfl rfl (BlkF (by exact n4) b4) rfl (half_one _ _ _ _ _ _) 4 fld_wide rfl ?_))
    have b9 : Blk ((w2.setCell ⟨w1.heap.size, 2, none⟩ (.int .u64 u)).setRow w.heap.size (halfA T false u none 0 0)) w.heap.size 210 (halfA T false u none 0 0) := Blk.setRow_ (BlkF (by exact n4) b4)
    have hz1 : w.heap.size + 1 ≤ w1.heap.size := by simpa using hgz
    exact bodyPost_ret (v := .agg (halfA T false u none 0 0)) (res_row rfl _ _ _ 210 _ 4 rfl b9 fld_wide rfl) rfl ⟨none, 0, rfl, (by repeat (first | with_reducible exact World.grownBy.refl _ _ | with_reducible assumption | with_reducible refine GrD ?_ | with_reducible refine GrDN ?_ | with_reducible refine GrA ?_ | with_reducible refine grown_set ?_ _ | (with_reducible refine GrN ?_ ?_; (first | omega | (dsimp only; omega) | (simp; done) | (simp; omega))) | (with_reducible refine GrR ?_ ?_; (first | omega | (dsimp only; omega) | (simp; done) | (simp; omega))) | with_reducible refine World.grownBy.trans ?_ (by with_reducible assumption))), BlkR (by have := Hgw.out; omega) (BlkF hgw2 b2), World.ownsRow_nil _ _ _ _⟩
  · rw [if_neg hpar] at hv
    obtain rfl : p = true := by rw [hp]; simp; omega
    by_cases h200 : 200 < u
    · rw [if_pos h200] at hv; injection hv with h1 h2; injection h2 with h3 h4; cases h4
    rw [if_neg h200] at hv
    by_cases hsh : (l.drop at_).length - k - k2 < u
    · rw [if_pos hsh] at hv; injection hv with h1 h2; injection h2 with h3 h4; cases h4
    rw [if_neg hsh] at hv
    simp only [Prod.mk.injEq, and_true, List.drop_drop] at hv
    obtain ⟨hf, hm⟩ := hv
    obtain ⟨y, hy⟩ : ∃ y, y = x + u := ⟨_, rfl⟩
    have hatm : at_ + m = y := by omega
    have hyn : y ≤ n := by rw [List.length_drop] at hsh; omega
    rw [hatm]
    have hu200 : u ≤ 200 := by omega
    obtain ⟨A', hsl, hrd⟩ := slice_lh A n c x y (by omega) hyn hnc
    have hyx : y - x = u := by omega
    rw [hyx] at hsl hrd
    obtain ⟨bs, hbs⟩ : ∃ bs, bs = (l.drop x).take u := ⟨_, rfl⟩
    have hbl : bs.length = u := by rw [hbs]; simp; omega
    have hf2 : f = ⟨(T : Int), true, 0, bs⟩ := by rw [← hf, hbs, hx2]; simp only [Nat.add_assoc]
    obtain ⟨r, hr2⟩ : ∃ r, r = n - x := ⟨_, rfl⟩
    have hru : u ≤ r := by omega
    have R1 : IntKind.i64.wrap ((n : Int) - (x : Int)) = (r : Int) := by rw [IntKind.wrap_i64]; omega
    have R2 : IntKind.u64.wrap (r : Int) = (r : Int) := by rw [IntKind.wrap_u64]; omega
    have R3 : IntKind.i64.wrap (u : Int) = (u : Int) := by rw [IntKind.wrap_i64]; omega
    have R4 : IntKind.i64.wrap ((x : Int) + (u : Int)) = (y : Int) := by rw [IntKind.wrap_i64]; omega
    have R5 : (x : Int) + (u : Int) = (y : Int) := by omega
    have Hcl : Hid (∀ w2, Ext W0 w2 → Calls Tryz.prog 53 #[.slice A' u (c - x)] w2 (NewB w2 bs)) := Lib.hid fun w2 h => clone_any A' u (c - x) bs w2 (by rw [hbs]; exact hrd w2 l (hr.ext h)) (by omega)
    subst hf2
    have HR4 := Lib.hid R4
    have HR5 := Lib.hid R5
    have Hbl := Lib.hid hbl
    clear hk hr hb hll hT hp hg hu hu0 hx2 hpar hatm hm h263 hf hsh hbs hr2 hrd hyx hy hbl R4 R5
    go_enter Tryz.func219, Tryz.ntmps219
    go_wp2_with (first
      | (go_at_call 241; (with_reducible refine (K1.out _ hx0.out).mono ?_); rintro e w1 ⟨rfl, hg1, b1⟩; have hW1 : Ext W0 w1 := Ext.grown (hx.tr hx0.out) hg1 (fun r hr => by cases hr; exact Hg.out); have hgz := hg1.size; have b1' : Blk (w1.alloc (.cells (halfA T true 0 none 0 0) 210)) g 292 (curA A n c (at_ + k)) := BlkA b1; have hW1' : Ext W0 (w1.alloc (.cells (halfA T true 0 none 0 0) 210)) := ExtA hW1; unfold halfA at b1' hW1')
      | ((go_at_call 241; (with_reducible refine (K2.out _ hW1' b1').mono ?_); rintro e w2 ⟨rfl, hg2, b2⟩; have hgw2 : g ≠ w1.heap.size := (by have h1 := Hgw.out; have h2 := hx0.out.size; omega); have b6 : Blk w2 w1.heap.size 210 (halfA T true 0 none 0 0) := BlkG (BlkN rfl) hg2 (fun h => hgw2 (Option.some.inj h).symm); have e6_1 : w2.cell? ⟨w1.heap.size, 1, none⟩ = some (.bool true) := b6.cell 1; have d0 : w2.cell? ⟨g, 0, none⟩ = some (.slice A n c) := b2.cell 0; have d1 : w2.cell? ⟨g, 1, none⟩ = some (.int .i64 (x : Nat)) := b2.cell 1); have e6_3 : w2.cell? ⟨w1.heap.size, 3, none⟩ = some (.slice none 0 0) := b6.cell 3; have f6_3 := b6.frozen 3; have b4 := blk4 Hgw.out hg1 hg2; have n4 : w.heap.size ≠ w1.heap.size := (by simp at hgz; omega)))
    go_quiet (fail)
    go_wp2_with fail
    have R4 := HR4.out
    go_region_held3 (fun w' => w'.cell? ⟨g, 0, none⟩ = some (.slice A n c) ∧ w'.cell? ⟨g, 1, none⟩ = some (.int .i64 (x : Nat)))
      (first
        | go_keep
        | exact ⟨c2.cell 0, c2.cell 1⟩
        | exact ⟨(BlkF (by exact hgw2) c2).cell 0, (BlkF (by exact hgw2) c2).cell 1⟩)
      (first
        | (go_at_call 53; (with_reducible refine (Hcl.out _ (ExtDN (Ext.grown hW1' hg2 (fun r hr => by cases hr; exact Hg.out)))).mono ?_); rintro e w3 ⟨A3, c3, rfl, hx3, hown3⟩; have c6 : Blk w3 w1.heap.size 210 (halfA T true 0 none 0 0) := hx3.blk (BlkDN b6); have c2 : Blk w3 g 292 (curA A n c x) := hx3.blk (BlkDN b2); have e7 : w3.cell? ⟨w1.heap.size, 3, none⟩ = some (.slice none 0 0) := c6.cell 3; have f7 := c6.frozen 3))
    have q2 := BlkF (p := ⟨w1.heap.size, 3, none⟩) (u := .slice A3 bs.length c3) (by exact hgw2) c2
    have q6 := blk_bytes (A2 := A3) (m2 := bs.length) (c2 := c3) c6
    have q4 := BlkF (p := ⟨w1.heap.size, 3, none⟩) (u := .slice A3 bs.length c3) (by exact n4) (hx3.blk (BlkDN b4))
    have hz1 : w.heap.size + 1 ≤ w1.heap.size := by simpa using hgz
    have hz2 : w1.heap.size + 1 ≤ w2.heap.size := by simpa using hg2.size
    have Hown3 := Lib.hid hown3
    have HG : Hid (w.grownBy ((w3.setCell ⟨w1.heap.size, 3, none⟩ (.slice A3 bs.length c3)).setCell ⟨g, 1, none⟩ (.int .i64 (y : Nat))) (some g)) := by
      have hg3 : w2.grownBy w3 (some g) := (grown_drewN (World.grownBy.refl w2 (some g)) _).trans (ext_grown hx3 (some g))
      exact Lib.hid (by repeat (first | with_reducible exact World.grownBy.refl _ _ | with_reducible assumption | with_reducible refine GrD ?_ | with_reducible refine GrDN ?_ | with_reducible refine GrA ?_ | with_reducible refine grown_set ?_ _ | (with_reducible refine GrN ?_ ?_; (first | omega | (dsimp only; omega) | (simp; done) | (simp; omega))) | (with_reducible refine GrR ?_ ?_; (first | omega | (dsimp only; omega) | (simp; done) | (simp; omega))) | with_reducible refine World.grownBy.trans ?_ (by with_reducible assumption)))
    generalize hZ : w3.setCell ⟨w1.heap.size, 3, none⟩ (.slice A3 bs.length c3) = Z at *
    have HZ := Lib.hid hZ
    clear hZ
    have d0 : Z.cell? ⟨g, 0, none⟩ = some (.slice A n c) := q2.cell 0
    have d1 : Z.cell? ⟨g, 1, none⟩ = some (.int .i64 (x : Nat)) := q2.cell 1
    have f1 := q2.frozen 1
    have R5 := HR5.out
    clear R1 R2 R4 hsl
    go_wp2_with (first
      | (refine wpL_load_row rfl 210 (.tmp 6) rfl w1.heap.size 210 (halfA T true 0 A3 bs.length c3) 4 rfl (BlkF (by exact Ne.symm hgw2) q6) fld_wide rfl ?_)
      | (refine wpL_store_row rfl 210 (.tmp 4) (.tmp 88) rfl w.heap.size 210 #[.int .i64 0, .bool false, .int .u64 0, .slice none 0 0] (halfA T true 0 A3 bs.length c3) rfl rfl (BlkF (by have := Hgw.out; dsimp only; omega) q4) rfl (half_one _ _ _ _ _ _) 4 fld_wide rfl ?_))
    have b9 : Blk ((Z.setCell ⟨g, 1, none⟩ (.int .i64 (y : Nat))).setRow w.heap.size (halfA T true 0 A3 bs.length c3)) w.heap.size 210 (halfA T true 0 A3 bs.length c3) := Blk.setRow_ (BlkF (by have := Hgw.out; dsimp only; omega) q4)
    have hGZ := HG.out
    refine bodyPost_ret (v := .agg (halfA T true 0 A3 bs.length c3)) (res_row rfl _ _ _ 210 _ 4 rfl b9 fld_wide rfl) rfl ⟨A3, c3, rfl, (by repeat (first | with_reducible exact World.grownBy.refl _ _ | with_reducible assumption | with_reducible refine GrD ?_ | with_reducible refine GrDN ?_ | with_reducible refine GrA ?_ | with_reducible refine grown_set ?_ _ | (with_reducible refine GrN ?_ ?_; (first | omega | (dsimp only; omega) | (simp; done) | (simp; omega))) | (with_reducible refine GrR ?_ ?_; (first | omega | (dsimp only; omega) | (simp; done) | (simp; omega))) | with_reducible refine World.grownBy.trans ?_ (by with_reducible assumption))), BlkR (by have := Hgw.out; omega) (BlkS q2), ?_⟩
    rw [← HZ.out]
    have h1 := own_base Hown3.out (show w1.heap.size + 1 ≤ (w2.drewN (nq + 1)).heap.size by simpa using hz2)
    have h2 := own_setCell (p := ⟨w1.heap.size, 3, none⟩) (u := .slice A3 bs.length c3) (by dsimp only; omega) h1
    have h3 := own_setCell (p := ⟨g, 1, none⟩) (u := .int .i64 (y : Nat)) (by have := Hgw.out; dsimp only; omega) h2
    exact own_base (own_setRow (by omega) h3) (by omega)
end Go.Proofs.YtjajbbgebblalaaGreatDoor

namespace Go.Proofs.YtjajbbgebblalaaGreatDoor
open Go.RowKit
set_option linter.unusedVariables false
set_option linter.unusedSimpArgs false
set_option maxRecDepth 100000 in
set_option maxHeartbeats 1000000 in
theorem dcatch_panic (p q : Addr) (vp vq : Value) (x : Int) (older : List PanicEntry) (w : World) (hp : w.cell? p = some vp) (hq : w.cell? q = some vq) (fp : w.frozen? p = false) (fq : w.frozen? q = false) (hpq : ¬ p = q) :
    CallsD Tryz.prog 218 #[.pointer (some p), .pointer (some q)] (.panicking ({ v := .iface 32 (.int .i64 x), recovered := false } :: older)) w fun e u' w' =>
      e = .returned (.tuple #[]) ∧ u' = .panicking ({ v := .iface 32 (.int .i64 x), recovered := true } :: older) ∧ w' = (w.setCell p (.slice none 0 0)).setCell q (.int .i64 x) := by
  have hq2 : (w.setCell p (.slice none 0 0)).cell? q = some vq := by rw [World.cell?_setCell_other _ _ _ _ hpq]; exact hq
  have hta : ∀ (x : Int) (w : World), (Instr.typeAssert (.iface 32 (.int .i64 x)) 20 32 true).run Tryz.prog w = .ok (.tuple #[.int .i64 x, .bool true]) w := fun _ _ => by kernel_rfl
  refine callsD_of_wpS Tryz.func218 rfl fun c₀ cs hu => ?_
  apply wpS_seq
  apply wpS_region
  simp [wpOpsS, go_sem, recoverD, hu, Tryz.ntmps218, Exit.thenS]
  refine wpS_of_wp ?_
  change Code.wp _ _ _ ⟨#[.pointer (some p), .pointer (some q), .iface 32 (.int .i64 x), undef, undef, .iface 32 (.int .i64 x), undef, undef, undef, undef, undef, undef, undef, undef, undef, undef, undef], []⟩ w
  go_wp2_with fail
  simp [bodyPostS, results, Tryz.results218]
set_option maxRecDepth 100000 in
set_option maxHeartbeats 1000000 in
theorem dcatch_idle (p q : Addr) (w : World) :
    CallsD Tryz.prog 218 #[.pointer (some p), .pointer (some q)] .returning w fun e u' w' => e = .returned (.tuple #[]) ∧ u' = .returning ∧ w' = w := by
  refine callsD_of_wpS Tryz.func218 rfl fun c₀ cs hu => ?_
  apply wpS_seq
  apply wpS_region
  simp [wpOpsS, go_sem, recoverD, hu, Tryz.ntmps218, Exit.thenS]
  refine wpS_of_wp ?_
  change Code.wp _ _ _ ⟨#[.pointer (some p), .pointer (some q), .nilIface, undef, undef, .nilIface, undef, undef, undef, undef, undef, undef, undef, undef, undef, undef, undef], []⟩ w
  go_wp2_with fail
  cases c₀
  simp_all [bodyPostS, results, Tryz.results218]
theorem own_offC {w : World} {base g : Nat} {e t : TypeId} {s n : Nat} {v : Value} {xs : List Value} {cs : Array Value} (h : w.ownsRow base e s v n xs) (hb : Blk w g t cs) (ht : t ≠ e) : v.ownBlock = none ∨ v.ownBlock ≠ some g := by
  rcases h.2 with ⟨rfl, _⟩ | ⟨g2, cap, cur, rfl, _, hg2, _⟩
  · exact .inl rfl
  · refine .inr fun hc => ?_
    simp only [Value.ownBlock, Option.some.injEq] at hc
    subst hc
    unfold Blk at hb
    rw [hb] at hg2
    simp at hg2
    exact ht hg2.2
theorem own_setOff {w : World} {base g i : Nat} {e t : TypeId} {s n : Nat} {v u : Value} {xs : List Value} {cs : Array Value} (h : w.ownsRow base e s v n xs) (hb : Blk w g t cs) (ht : t ≠ e) : (w.setCell ⟨g, i, none⟩ u).ownsRow base e s v n xs :=
  own_heap h fun k hk => Below.heap_setCell w ⟨g, i, none⟩ u k (fun hc => by
    rcases own_offC h hb ht with h1 | h1
    · rw [h1] at hk; cases hk
    · exact h1 (by rw [hk, hc]))
theorem OwnFs.setOff {w : World} {base g i : Nat} {t : TypeId} {A : Option Addr} {n c : Nat} {hs : List Held} {u : Value} {cs : Array Value} (h : OwnFs w base A n c hs) (hb : Blk w g t cs) (h1 : t ≠ 210) (h2 : t ≠ 5) : OwnFs (w.setCell ⟨g, i, none⟩ u) base A n c hs :=
  ⟨own_setOff h.1 hb h1, fun f hf => own_setOff (h.2 f hf) hb h2⟩
theorem OwnFs.grownOff {w w' : World} {base g : Nat} {t : TypeId} {A : Option Addr} {n c : Nat} {hs : List Held} {cs : Array Value} (h : OwnFs w base A n c hs) (hg : w.grownBy w' (some g)) (hb : Blk w g t cs) (h1 : t ≠ 210) (h2 : t ≠ 5) : OwnFs w' base A n c hs :=
  ⟨h.1.kept hg (own_offC h.1 hb h1), fun f hf => (h.2 f hf).kept hg (own_offC (h.2 f hf) hb h2)⟩
theorem OwnFs.ext {w w' : World} {base : Nat} {A : Option Addr} {n c : Nat} {hs : List Held} (h : OwnFs w base A n c hs) (hx : Ext w w') : OwnFs w' base A n c hs := ⟨own_ext hx h.1, fun f hf => own_ext hx (h.2 f hf)⟩
/-- What is still to come, behind what was read. -/
def Goes (l : List UInt8) (pre : List Fld) (last : Int) (at_ : Nat) : Prop :=
  decA l 0 0 = if (decA l last at_).2.2 ≠ 0 then decA l last at_ else (pre ++ (decA l last at_).1, 0, 0)
theorem goes_start (l : List UInt8) : Goes l [] 0 0 := by
  unfold Goes
  have h := decA_form l 0 0
  generalize decA l 0 0 = y at h ⊢
  obtain ⟨a, b, e⟩ := y
  by_cases he : e = 0
  · subst he; simp at h ⊢; exact h
  · simp [he]
theorem goes_step {l : List UInt8} {pre : List Fld} {last : Int} {at_ m : Nat} {f : Fld} (h : Goes l pre last at_) (hl : 0 ≤ last) (hat : at_ < l.length) (hn : next (l.drop at_) last = (f, m, 0)) : Goes l (pre ++ [f]) f.tag (at_ + m) := by
  unfold Goes at h ⊢
  rw [h, decA_ok hl hat hn]
  by_cases he : (decA l f.tag (at_ + m)).2.2 = 0
  · simp [he]
  · have hf := (decA_form l f.tag (at_ + m)).1 he
    simp only [ne_eq, he, not_false_eq_true, if_true]
    rw [← hf]
theorem goes_bad {l : List UInt8} {pre : List Fld} {last : Int} {at_ E : Nat} (h : Goes l pre last at_) (hat : at_ < l.length) (hn : (next (l.drop at_) last).2.2 = E) (hE : E ≠ 0) : decA l 0 0 = ([], at_, E) := by
  unfold Goes at h
  rw [h, decA_bad hat (by rw [hn]; exact hE), hn]
  simp [hE]
theorem goes_end {l : List UInt8} {pre : List Fld} {last : Int} {at_ : Nat} (h : Goes l pre last at_) (hat : l.length ≤ at_) : decA l 0 0 = (pre, 0, 0) := by
  unfold Goes at h
  rw [h, decA_end hat]
  simp
def DecPost (W : World) (l : List UInt8) (e : Ending) (w' : World) : Prop :=
  ∃ A c hs, e = .returned (.tuple #[.slice A (dec l).1.length c, .int .i64 ((dec l).2.1 : Nat), .int .i64 ((dec l).2.2 : Nat)]) ∧ Ext W w' ∧ OwnFs w' W.heap.size A (dec l).1.length c hs ∧ hs.map (·.1) = (dec l).1
end Go.Proofs.YtjajbbgebblalaaGreatDoor

namespace Go.Proofs.YtjajbbgebblalaaGreatDoor
open Go.RowKit
set_option linter.unusedVariables false
set_option linter.unusedSimpArgs false
def TDecR (W : World) (A : Option Addr) (n c : Nat) (l : List UInt8) (gk : Nat) (c3 c6 : Value) (wr : World) : Prop :=
  ∃ (x : Int) (last : Int) (at_ : Nat) (Ar : Option Addr) (cr : Nat) (hs : List Held), c3 = .int .i64 x ∧ c6 = .int .i64 last ∧ at_ + gk = n ∧ 0 ≤ last ∧ last ≤ 31 ∧ hs.length ≤ at_ ∧ Ext W wr ∧
    Blk wr W.heap.size 197 #[.slice Ar hs.length cr] ∧ Blk wr (W.heap.size + 1) 32 #[.int .i64 0] ∧ Blk wr (W.heap.size + 1 + 1) 292 (curA A n c at_) ∧
    OwnFs wr W.heap.size Ar hs.length cr hs ∧ Goes l (hs.map (·.1)) last at_
set_option maxRecDepth 100000 in
set_option maxHeartbeats 4000000 in
theorem tdec_any (A : Option Addr) (n c : Nat) (l : List UInt8) (w : World) (hr : Rd w A n (u8s l)) (hnc : n ≤ c) (hn : n ≤ maxLen) :
    Calls Tryz.prog 170 #[.slice A n c] w (DecPost w l) := by
  unfold maxLen at hn
  have hmf : ∀ (fn : Fn) (first cap : Array Value) (w : World), (Instr.makeFunc fn first cap).run Tryz.prog w = .ok (.func fn first cap) w := fun _ _ _ _ => rfl
  have hll : l.length = n := by have := hr.1; rw [u8s_len] at this; exact this
  by_cases hbig : 1024 < n
  · have Hd : Hid (dec l = ([], 0, 24)) := Lib.hid (by rw [dec_eq, if_pos (by omega)])
    clear hll hr
    go_enter_defers Tryz.func170, Tryz.ntmps170
    go_wp2_with fail
    have e2 : Blk ((w.alloc (.cells #[.slice none 0 0] 197)).alloc (.cells #[.int .i64 24] 32)) w.heap.size 197 #[.slice none 0 0] := BlkA (BlkN rfl)
    have e3 : Blk ((w.alloc (.cells #[.slice none 0 0] 197)).alloc (.cells #[.int .i64 24] 32)) (w.heap.size + 1) 32 #[.int .i64 24] := BlkN (by simp)
    refine ⟨_, results_ctc rfl _ _ rfl rfl rfl (load_cell Tryz.underlying197 rfl (e2.cell 0)) (load_cell Tryz.underlying32 rfl (e3.cell 0)), ?_⟩
    unfold DecPost
    rw [Hd.out]
    exact ⟨none, 0, [], rfl, (by repeat (first | with_reducible exact Below.refl _ _ | with_reducible assumption | with_reducible refine ExtD ?_ | with_reducible refine ExtDN ?_ | with_reducible refine ExtA ?_ | (with_reducible refine ExtR ?_ ?_; (first | omega | (dsimp only; omega) | (simp; done) | (simp; omega))) | (with_reducible refine ExtS ?_ ?_; (first | omega | (dsimp only; omega) | (simp; done) | (simp; omega))) | with_reducible refine Ext.tr ?_ (by with_reducible assumption))), ⟨World.ownsRow_nil _ _ _ _, fun h hh => by cases hh⟩, rfl⟩
  · have hn1 : n ≤ 1024 := by omega
    have Hdec : Hid (dec l = decA l 0 0) := Lib.hid (by rw [dec_eq, if_neg (by omega)])
    have Hll := Lib.hid hll
    have Hr := Lib.hid hr
    clear hll hbig hr
    go_enter_defers Tryz.func170, Tryz.ntmps170
    go_wp2_with fail
    go_loopg [3, 6] n (fun gk c3 c6 wr => TDecR w A n c l gk c3 c6 wr)
    case atStart => exact ⟨0, 0, 0, none, 0, [], rfl, rfl, by omega, by omega, by omega, by simp, (by repeat (first | with_reducible exact Below.refl _ _ | with_reducible assumption | with_reducible refine ExtD ?_ | with_reducible refine ExtDN ?_ | with_reducible refine ExtA ?_ | (with_reducible refine ExtR ?_ ?_; (first | omega | (dsimp only; omega) | (simp; done) | (simp; omega))) | (with_reducible refine ExtS ?_ ?_; (first | omega | (dsimp only; omega) | (simp; done) | (simp; omega))) | with_reducible refine Ext.tr ?_ (by with_reducible assumption))), BlkA (BlkA (BlkN rfl)), (by repeat (first | with_reducible assumption | (with_reducible refine BlkN ?_; (first | rfl | (first | omega | (dsimp only; omega) | (simp; done) | (simp; omega)))) | with_reducible refine BlkD ?_ | with_reducible refine BlkDN ?_ | with_reducible refine BlkA ?_ | with_reducible refine BlkE ?_ (by with_reducible assumption) | with_reducible refine BlkS ?_ | (with_reducible refine BlkF ?_ ?_; (first | omega | (dsimp only; omega) | (simp; done) | (simp; omega))) | (with_reducible refine BlkR ?_ ?_; (first | omega | (dsimp only; omega) | (simp; done) | (simp; omega))))), BlkN (by simp), ⟨World.ownsRow_nil _ _ _ _, fun h hh => by cases hh⟩, goes_start l⟩
    case round =>
      obtain ⟨x, last, at_, Ar, cr, hs, rfl, rfl, hat, hlo, hhi, hln, hx, b2, b4, b5, hown, hgo⟩ := hrel
      have Hown := Lib.hid hown
      have Hgo := Lib.hid hgo
      have k2 : wr.cell? ⟨w.heap.size, 0, none⟩ = some (.slice Ar hs.length cr) := b2.cell 0
      have f2 := b2.frozen 0
      have k4 : wr.cell? ⟨w.heap.size + 1, 0, none⟩ = some (.int .i64 0) := b4.cell 0
      have f4 := b4.frozen 0
      have k5 : wr.cell? ⟨w.heap.size + 1 + 1, 1, none⟩ = some (.int .i64 (at_ : Nat)) := b5.cell 1
      clear hown hgo
      have B2 := Lib.hid b2
      have B4 := Lib.hid b4
      have B5 := Lib.hid b5
      clear b2 b4 b5
      by_cases hlt : at_ < n
      · obtain ⟨⟨f, m, E⟩, hnx⟩ : ∃ x, x = next (l.drop at_) last := ⟨_, rfl⟩
        by_cases hE : E = 0
        · subst hE
          obtain ⟨p1, p2, p3, p4⟩ := next_pos hnx.symm hlo
          rw [List.length_drop] at p2
          have hgo2 := goes_step Hgo.out hlo (by have := Hll.out; omega) hnx.symm
          have Hgo2 := Lib.hid hgo2
          have hm1 : at_ + m ≤ n := by have := Hll.out; omega
          have Kf := Lib.hid (field_ok w A n c at_ (w.heap.size + 1 + 1) last l wr B5.out Hr.out hx (by omega) (by omega) hnc hn1 hlo hhi f m hnx.symm)
          have q5 := B5.out.lt
          clear hnx p2 hgo2
          go_wp2_with (first
            | (go_at_call 219; go_must (with_reducible refine (Kf.out).mono ?_); rintro e w1 ⟨A1, c1, he, hg1, b5, hown1⟩; unfold fcells at he; subst he; have c2 := BlkG B2.out hg1 (by intro h; have := Option.some.inj h; omega); have c4 := BlkG B4.out hg1 (by intro h; have := Option.some.inj h; omega); have k2 : w1.cell? ⟨w.heap.size, 0, none⟩ = some (.slice Ar hs.length cr) := c2.cell 0; have k3 : (w1.alloc (.cells #[.int .i64 f.tag, .bool f.text, .int .u64 (f.num : Nat), .slice A1 f.bytes.length c1] 210)).cell? ⟨w.heap.size, 0, none⟩ = some (.slice Ar hs.length cr) := (BlkA c2).cell 0; have hz := hg1.size; have hz2 : w.heap.size + 1 + 1 < w1.heap.size := (by omega); have hx1 : Ext w w1 := Ext.grown hx hg1 (by intro r hr; cases hr; omega); have Hf := Lib.hid (OwnFs.grownOff Hown.out hg1 B5.out (by decide) (by decide)))
            | (at_builtin; go_must (refine wpF_append rfl (.tmp 31) (.tmp 33) rfl w rfl ((Hf.out.1.alloc _).alloc _) (ExtA (ExtA hx1)) rfl (rdF_new _ _ f A1 c1 (by simp)) (by simp; omega) ?_); intro A3 n3 c3 w3 hx3 hn3 hown3 hk3 hu3 hg3; have d2 := hk3 _ 197 _ (by decide) (BlkA (BlkA c2)); have d4 := hk3 _ 32 _ (by decide) (BlkA (BlkA c4)); have d5 := hk3 _ 292 _ (by decide) (BlkA (BlkA b5)); have m2 : w3.cell? ⟨w.heap.size, 0, none⟩ = some (.slice Ar hs.length cr) := d2.cell 0; have g2 := d2.frozen 0))
          have hn : n3 = (hs ++ [(f, A1, c1)]).length := by rw [hn3.out]; simp
          subst hn
          go_roundg (n - (at_ + m))
          case measure => omega
          case rel =>
            refine ⟨_, f.tag, at_ + m, A3, c3, hs ++ [(f, A1, c1)], rfl, rfl, by omega, by omega, p4, by simp; omega, (by repeat (first | with_reducible exact Below.refl _ _ | with_reducible assumption | with_reducible refine ExtD ?_ | with_reducible refine ExtDN ?_ | with_reducible refine ExtA ?_ | (with_reducible refine ExtR ?_ ?_; (first | omega | (dsimp only; omega) | (simp; done) | (simp; omega))) | (with_reducible refine ExtS ?_ ?_; (first | omega | (dsimp only; omega) | (simp; done) | (simp; omega))) | with_reducible refine Ext.tr ?_ (by with_reducible assumption))), BlkS d2, BlkF (by dsimp only; omega) d4, BlkF (by dsimp only; omega) d5, ?_, by rw [List.map_append]; exact Hgo2.out⟩
            refine ⟨own_setOff hown3 d2 (by decide), fun h hh => own_setOff (hu3 _ _ _ _ ?_) d2 (by decide)⟩
            rcases List.mem_append.1 hh with hh | hh
            · exact ((Hf.out.2 h hh).alloc _).alloc _
            · simp only [List.mem_singleton] at hh
              subst hh
              exact own_base ((hown1.alloc _).alloc _) (by omega)
        · have Kf := Lib.hid (field_bad w A n c at_ (w.heap.size + 1 + 1) last l wr B5.out Hr.out hx (by omega) (by omega) hnc hn1 hlo hhi E (by rw [← hnx]) hE)
          have HD : Hid (dec l = ([], at_, E)) := Lib.hid (by rw [Hdec.out]; exact goes_bad Hgo.out (by have := Hll.out; omega) (by rw [← hnx]) hE)
          clear hnx hE
          go_wp2_with (go_at_call 219; go_must (with_reducible refine (Kf.out).mono ?_); rintro e w1 ⟨he, hg1⟩; unfold ErrPanic at he; subst he)
          have c2 := BlkG B2.out hg1 (by intro h; have := Option.some.inj h; omega)
          have c4 := BlkG B4.out hg1 (by intro h; have := Option.some.inj h; omega)
          refine leaves_cons (f := 218) (args := #[.pointer (some ⟨w.heap.size, 0, none⟩), .pointer (some ⟨w.heap.size + 1, 0, none⟩)]) (by simp) (by simp [go_sem]) ?_
          refine (dcatch_panic ⟨w.heap.size, 0, none⟩ ⟨w.heap.size + 1, 0, none⟩ _ _ _ [] _ (c2.cell 0) (c4.cell 0) (c2.frozen 0) (c4.frozen 0) (by simp)).mono ?_
          rintro e u' w'' ⟨rfl, rfl, rfl⟩
          simp only [settle, List.dropWhile_nil]
          have e2 : Blk ((w1.setCell ⟨w.heap.size, 0, none⟩ (.slice none 0 0)).setCell ⟨w.heap.size + 1, 0, none⟩ (.int .i64 (E : Nat))) w.heap.size 197 #[.slice none 0 0] := BlkF (by dsimp only; omega) (BlkS c2)
          have e3 : Blk ((w1.setCell ⟨w.heap.size, 0, none⟩ (.slice none 0 0)).setCell ⟨w.heap.size + 1, 0, none⟩ (.int .i64 (E : Nat))) (w.heap.size + 1) 32 #[.int .i64 (E : Nat)] := BlkS (BlkF (by dsimp only; omega) c4)
          refine ⟨_, results_ctc rfl _ _ rfl rfl rfl (load_cell Tryz.underlying197 rfl (e2.cell 0)) (load_cell Tryz.underlying32 rfl (e3.cell 0)), ?_⟩
          unfold DecPost
          rw [HD.out]
          have hx1 : Ext w w1 := Ext.grown hx hg1 (by intro r hr; cases hr; omega)
          exact ⟨none, 0, [], rfl, (by repeat (first | with_reducible exact Below.refl _ _ | with_reducible assumption | with_reducible refine ExtD ?_ | with_reducible refine ExtDN ?_ | with_reducible refine ExtA ?_ | (with_reducible refine ExtR ?_ ?_; (first | omega | (dsimp only; omega) | (simp; done) | (simp; omega))) | (with_reducible refine ExtS ?_ ?_; (first | omega | (dsimp only; omega) | (simp; done) | (simp; omega))) | with_reducible refine Ext.tr ?_ (by with_reducible assumption))), ⟨World.ownsRow_nil _ _ _ _, fun h hh => by cases hh⟩, rfl⟩
      · have HD : Hid (dec l = (hs.map (·.1), 0, 0)) := Lib.hid (by rw [Hdec.out]; exact goes_end Hgo.out (by have := Hll.out; omega))
        go_wp2_with fail
        refine leaves_cons (f := 218) (args := #[.pointer (some ⟨w.heap.size, 0, none⟩), .pointer (some ⟨w.heap.size + 1, 0, none⟩)]) (by simp) (by simp [go_sem]) ?_
        refine (dcatch_idle ⟨w.heap.size, 0, none⟩ ⟨w.heap.size + 1, 0, none⟩ _).mono ?_
        rintro e u' w'' ⟨rfl, rfl, rfl⟩
        have e2 : Blk ((wr.setCell ⟨w.heap.size, 0, none⟩ (.slice Ar hs.length cr)).setCell ⟨w.heap.size + 1, 0, none⟩ (.int .i64 0)) w.heap.size 197 #[.slice Ar hs.length cr] := BlkF (by dsimp only; omega) (BlkS B2.out)
        have e3 : Blk ((wr.setCell ⟨w.heap.size, 0, none⟩ (.slice Ar hs.length cr)).setCell ⟨w.heap.size + 1, 0, none⟩ (.int .i64 0)) (w.heap.size + 1) 32 #[.int .i64 0] := BlkS (BlkF (by dsimp only; omega) B4.out)
        refine ⟨_, results_ctc rfl _ _ rfl rfl rfl (load_cell Tryz.underlying197 rfl (e2.cell 0)) (load_cell Tryz.underlying32 rfl (e3.cell 0)), ?_⟩
        unfold DecPost
        rw [HD.out]
        have hl2 : (hs.map (·.1)).length = hs.length := List.length_map ..
        refine ⟨Ar, cr, hs, ?_, (by repeat (first | with_reducible exact Below.refl _ _ | with_reducible assumption | with_reducible refine ExtD ?_ | with_reducible refine ExtDN ?_ | with_reducible refine ExtA ?_ | (with_reducible refine ExtR ?_ ?_; (first | omega | (dsimp only; omega) | (simp; done) | (simp; omega))) | (with_reducible refine ExtS ?_ ?_; (first | omega | (dsimp only; omega) | (simp; done) | (simp; omega))) | with_reducible refine Ext.tr ?_ (by with_reducible assumption))), ?_, rfl⟩
        · dsimp only; rw [hl2]; rfl
        · dsimp only; rw [hl2]
          exact OwnFs.setOff (OwnFs.setOff Hown.out B2.out (by decide) (by decide)) (BlkF (by dsimp only; omega) B4.out) (by decide) (by decide)
end Go.Proofs.YtjajbbgebblalaaGreatDoor
