/-
  The walks of the cursor's field.
-/
import Derived.Test.YtipdilmlodakoaaCurW
namespace Go.Proofs.Ytipdilmlodakoaa
open Go.RowKit
set_option linter.unusedVariables false
set_option linter.unusedSimpArgs false
theorem vdec_eta (l : List UInt8) : vdec l = ((vdec l).1, (vdec l).2.1, (vdec l).2.2) := rfl
/-- The field that is being read. -/
def halfA (T : Nat) (p : Bool) (u : Int) (A : Option Addr) (m c : Nat) : Array Value := #[.int .i64 (T : Nat), .bool p, .int .u64 u, .slice A m c]
set_option maxRecDepth 100000 in
set_option maxHeartbeats 4000000 in
theorem field_bad (W0 : World) (A : Option Addr) (n c at_ g : Nat) (last : Int) (l : List UInt8) (w : World) (hb : Blk w g 116 (curA A n c at_)) (hr : Rd W0 A n (u8s l)) (hx : Ext W0 w) (hg : W0.heap.size ≤ g) (hat : at_ ≤ n) (hnc : n ≤ c) (hn : n ≤ 1024) (hlo : 0 ≤ last) (hhi : last ≤ 31) (E : Nat) (hv : (next (l.drop at_) last).2.2 = E) (hE : E ≠ 0) :
    Calls Try.prog 69 #[.pointer (some ⟨g, 0, none⟩), .int .i64 last] w (NumBad w g E) := by
  have hll : l.length = n := by have := hr.1; rw [u8s_len] at this; exact this
  have Hgw := Lib.hid hb.lt
  have Hg := Lib.hid hg
  have hx0 : Hid (Ext w (w.alloc (.cells #[.int .i64 0, .bool false, .int .u64 0, .slice none 0 0] 54))) := Lib.hid (by repeat (first | with_reducible exact Below.refl _ _ | with_reducible assumption | with_reducible refine ExtD ?_ | with_reducible refine ExtDN ?_ | with_reducible refine ExtA ?_ | (with_reducible refine ExtR ?_ ?_; (first | omega | (dsimp only; omega) | (simp; done) | (simp; omega))) | (with_reducible refine ExtS ?_ ?_; (first | omega | (dsimp only; omega) | (simp; done) | (simp; omega))) | with_reducible refine Ext.tr ?_ (by with_reducible assumption)))
  obtain ⟨⟨v, k, e⟩, hk⟩ : ∃ x, x = vdec (l.drop at_) := ⟨_, rfl⟩
  unfold next at hv
  rw [← hk] at hv
  dsimp only at hv
  by_cases he : e = 0
  · subst he
    rw [if_neg (by simp)] at hv
    have K1 := Lib.hid (fun w1 (h1 : Ext w w1) => num_ok A n c at_ g l w1 (h1.blk hb) (hr.ext (hx.tr h1)) hat hnc hn v k hk.symm)
    by_cases h63 : 63 < v
    · rw [if_pos (.inr h63)] at hv
      subst hv
      clear hk hr hb hll hE hg
      go_enter Try.func69, Try.ntmps69
      go_wp2_with (go_at_call 93; go_must (with_reducible refine (K1.out _ hx0.out).mono ?_); rintro e w1 ⟨rfl, hg1, b1⟩)
      exact ⟨rfl, rfl, (by repeat (first | with_reducible exact World.grownBy.refl _ _ | with_reducible assumption | with_reducible refine GrD ?_ | with_reducible refine GrDN ?_ | with_reducible refine GrA ?_ | with_reducible refine grown_set ?_ _ | (with_reducible refine GrN ?_ ?_; (first | omega | (dsimp only; omega) | (simp; done) | (simp; omega))) | (with_reducible refine GrR ?_ ?_; (first | omega | (dsimp only; omega) | (simp; done) | (simp; omega))) | with_reducible refine World.grownBy.trans ?_ (by with_reducible assumption)))⟩
    obtain ⟨T, hT⟩ : ∃ T, T = v / 2 := ⟨_, rfl⟩
    have dT : (v : Int) / 2 = (T : Int) := by omega
    have hT31 : T ≤ 31 := by omega
    have HT := Lib.hid hT
    by_cases h2 : v < 2
    · rw [if_pos (.inl h2)] at hv
      subst hv
      have hT0 : T = 0 := by omega
      clear hk hr hb hll hE hT hg
      go_enter Try.func69, Try.ntmps69
      go_wp2_with (go_at_call 93; go_must (with_reducible refine (K1.out _ hx0.out).mono ?_); rintro e w1 ⟨rfl, hg1, b1⟩)
      exact ⟨rfl, rfl, (by repeat (first | with_reducible exact World.grownBy.refl _ _ | with_reducible assumption | with_reducible refine GrD ?_ | with_reducible refine GrDN ?_ | with_reducible refine GrA ?_ | with_reducible refine grown_set ?_ _ | (with_reducible refine GrN ?_ ?_; (first | omega | (dsimp only; omega) | (simp; done) | (simp; omega))) | (with_reducible refine GrR ?_ ?_; (first | omega | (dsimp only; omega) | (simp; done) | (simp; omega))) | with_reducible refine World.grownBy.trans ?_ (by with_reducible assumption)))⟩
    rw [if_neg (by omega), ← hT] at hv
    have hT1 : 1 ≤ T := by omega
    obtain ⟨p, hp⟩ : ∃ p, p = decide (v % 2 = 1) := ⟨_, rfl⟩
    have dp : ((v : Int) % 2 == 1) = p := by
      rw [hp]
      by_cases h : v % 2 = 1
      · simp only [h, decide_true]; simp; omega
      · simp only [h, decide_false]; simp; omega
    have tT : ((T : Int) == 0) = false := by simp; omega
    by_cases hl : (T : Int) ≤ last
    · rw [if_pos hl] at hv
      subst hv
      clear hk hr hb hll hE hT hp hg
      go_enter Try.func69, Try.ntmps69
      go_wp2_with (go_at_call 93; go_must (with_reducible refine (K1.out _ hx0.out).mono ?_); rintro e w1 ⟨rfl, hg1, b1⟩)
      exact ⟨rfl, rfl, (by repeat (first | with_reducible exact World.grownBy.refl _ _ | with_reducible assumption | with_reducible refine GrD ?_ | with_reducible refine GrDN ?_ | with_reducible refine GrA ?_ | with_reducible refine grown_set ?_ _ | (with_reducible refine GrN ?_ ?_; (first | omega | (dsimp only; omega) | (simp; done) | (simp; omega))) | (with_reducible refine GrR ?_ ?_; (first | omega | (dsimp only; omega) | (simp; done) | (simp; omega))) | with_reducible refine World.grownBy.trans ?_ (by with_reducible assumption)))⟩
    rw [if_neg hl, List.drop_drop] at hv
    have hk2 : at_ + k ≤ n := by
      obtain ⟨r, h1, h2, _⟩ := vdec_inv hk.symm
      have := congrArg List.length h1
      simp at this
      omega
    obtain ⟨⟨u, k2, e2⟩, hu⟩ : ∃ x, x = vdec (l.drop (at_ + k)) := ⟨_, rfl⟩
    rw [← hu] at hv
    dsimp only at hv
    by_cases he2 : e2 = 0
    · subst he2
      rw [if_neg (by simp)] at hv
      have K2 := Lib.hid (fun w2 (h1 : Ext W0 w2) (hb2 : Blk w2 g 116 (curA A n c (at_ + k))) => num_ok A n c (at_ + k) g l w2 hb2 (hr.ext h1) hk2 hnc hn u k2 hu.symm)
      obtain ⟨x, hx2⟩ : ∃ x, x = at_ + k + k2 := ⟨_, rfl⟩
      rw [← hx2] at K2
      have hxn : x ≤ n := by
        obtain ⟨r, h1, h2, _⟩ := vdec_inv hu.symm
        have := congrArg List.length h1
        simp at this
        omega
      by_cases hu0 : u = 0
      · rw [if_pos hu0] at hv
        subst hv
        have tu : ((u : Int) == 0) = true := by simp [hu0]
        clear hk hr hb hll hE hT hp hg hu hu0 hx2
        go_enter Try.func69, Try.ntmps69
        go_wp2_with (first
          | (go_at_call 93; (with_reducible refine (K1.out _ hx0.out).mono ?_); rintro e w1 ⟨rfl, hg1, b1⟩; have hW1 : Ext W0 w1 := Ext.grown (hx.tr hx0.out) hg1 (fun r hr => by cases hr; exact Hg.out); have hgz := hg1.size; have b1' : Blk (w1.alloc (.cells (halfA T p 0 none 0 0) 54)) g 116 (curA A n c (at_ + k)) := BlkA b1; have hW1' : Ext W0 (w1.alloc (.cells (halfA T p 0 none 0 0) 54)) := ExtA hW1; unfold halfA at b1' hW1')
          | (go_at_call 93; go_must (with_reducible refine (K2.out _ hW1' b1').mono ?_); rintro e w2 ⟨rfl, hg2, b2⟩))
        exact ⟨rfl, rfl, (by repeat (first | with_reducible exact World.grownBy.refl _ _ | with_reducible assumption | with_reducible refine GrD ?_ | with_reducible refine GrDN ?_ | with_reducible refine GrA ?_ | with_reducible refine grown_set ?_ _ | (with_reducible refine GrN ?_ ?_; (first | omega | (dsimp only; omega) | (simp; done) | (simp; omega))) | (with_reducible refine GrR ?_ ?_; (first | omega | (dsimp only; omega) | (simp; done) | (simp; omega))) | with_reducible refine World.grownBy.trans ?_ (by with_reducible assumption)))⟩
      rw [if_neg hu0] at hv
      have tu : ((u : Int) == 0) = false := by simp; exact hu0
      by_cases hpar : v % 2 = 0
      · rw [if_pos hpar] at hv; exact absurd hv.symm hE
      rw [if_neg hpar] at hv
      obtain rfl : p = true := by rw [hp]; simp; omega
      have u200 := Lib.hid (show u ≤ 18446744073709551615 by have := (vdec_inv hu.symm); obtain ⟨_, _, _, h⟩ := this; omega)
      by_cases h200 : 200 < u
      · rw [if_pos h200] at hv
        subst hv
        clear hk hr hb hll hE hT hp hg hu hu0 hx2 hpar
        go_enter Try.func69, Try.ntmps69
        go_wp2_with (first
          | (go_at_call 93; (with_reducible refine (K1.out _ hx0.out).mono ?_); rintro e w1 ⟨rfl, hg1, b1⟩; have hW1 : Ext W0 w1 := Ext.grown (hx.tr hx0.out) hg1 (fun r hr => by cases hr; exact Hg.out); have hgz := hg1.size; have b1' : Blk (w1.alloc (.cells (halfA T true 0 none 0 0) 54)) g 116 (curA A n c (at_ + k)) := BlkA b1; have hW1' : Ext W0 (w1.alloc (.cells (halfA T true 0 none 0 0) 54)) := ExtA hW1; unfold halfA at b1' hW1')
          | (go_at_call 93; (with_reducible refine (K2.out _ hW1' b1').mono ?_); rintro e w2 ⟨rfl, hg2, b2⟩; have hgw2 : g ≠ w1.heap.size := (by have h1 := Hgw.out; have h2 := hx0.out.size; omega); have b6 : Blk w2 w1.heap.size 54 (halfA T true 0 none 0 0) := BlkG (BlkN rfl) hg2 (fun h => hgw2 (Option.some.inj h).symm); have e6_1 : w2.cell? ⟨w1.heap.size, 1, none⟩ = some (.bool true) := b6.cell 1; have d0 : w2.cell? ⟨g, 0, none⟩ = some (.slice A n c) := b2.cell 0; have d1 : w2.cell? ⟨g, 1, none⟩ = some (.int .i64 (x : Nat)) := b2.cell 1))
        exact ⟨rfl, rfl, (by repeat (first | with_reducible exact World.grownBy.refl _ _ | with_reducible assumption | with_reducible refine GrD ?_ | with_reducible refine GrDN ?_ | with_reducible refine GrA ?_ | with_reducible refine grown_set ?_ _ | (with_reducible refine GrN ?_ ?_; (first | omega | (dsimp only; omega) | (simp; done) | (simp; omega))) | (with_reducible refine GrR ?_ ?_; (first | omega | (dsimp only; omega) | (simp; done) | (simp; omega))) | with_reducible refine World.grownBy.trans ?_ (by with_reducible assumption)))⟩
      rw [if_neg h200] at hv
      by_cases hsh : (l.drop at_).length - k - k2 < u
      · rw [if_pos hsh] at hv
        subst hv
        obtain ⟨r, hr2⟩ : ∃ r, r = n - x := ⟨_, rfl⟩
        have hru : r < u := by rw [List.length_drop] at hsh; omega
        have R1 : IntKind.i64.wrap ((n : Int) - (x : Int)) = (r : Int) := by rw [IntKind.wrap_i64]; omega
        have R2 : IntKind.u64.wrap (r : Int) = (r : Int) := by rw [IntKind.wrap_u64]; omega
        clear hk hr hb hll hE hT hp hg hu hu0 hx2 hpar hsh hr2
        go_enter Try.func69, Try.ntmps69
        go_wp2_with (first
          | (go_at_call 93; (with_reducible refine (K1.out _ hx0.out).mono ?_); rintro e w1 ⟨rfl, hg1, b1⟩; have hW1 : Ext W0 w1 := Ext.grown (hx.tr hx0.out) hg1 (fun r hr => by cases hr; exact Hg.out); have hgz := hg1.size; have b1' : Blk (w1.alloc (.cells (halfA T true 0 none 0 0) 54)) g 116 (curA A n c (at_ + k)) := BlkA b1; have hW1' : Ext W0 (w1.alloc (.cells (halfA T true 0 none 0 0) 54)) := ExtA hW1; unfold halfA at b1' hW1')
          | (go_at_call 93; (with_reducible refine (K2.out _ hW1' b1').mono ?_); rintro e w2 ⟨rfl, hg2, b2⟩; have hgw2 : g ≠ w1.heap.size := (by have h1 := Hgw.out; have h2 := hx0.out.size; omega); have b6 : Blk w2 w1.heap.size 54 (halfA T true 0 none 0 0) := BlkG (BlkN rfl) hg2 (fun h => hgw2 (Option.some.inj h).symm); have e6_1 : w2.cell? ⟨w1.heap.size, 1, none⟩ = some (.bool true) := b6.cell 1; have d0 : w2.cell? ⟨g, 0, none⟩ = some (.slice A n c) := b2.cell 0; have d1 : w2.cell? ⟨g, 1, none⟩ = some (.int .i64 (x : Nat)) := b2.cell 1))
        go_quiet (fail)
        go_wp2_with fail
        exact ⟨rfl, rfl, (by repeat (first | with_reducible exact World.grownBy.refl _ _ | with_reducible assumption | with_reducible refine GrD ?_ | with_reducible refine GrDN ?_ | with_reducible refine GrA ?_ | with_reducible refine grown_set ?_ _ | (with_reducible refine GrN ?_ ?_; (first | omega | (dsimp only; omega) | (simp; done) | (simp; omega))) | (with_reducible refine GrR ?_ ?_; (first | omega | (dsimp only; omega) | (simp; done) | (simp; omega))) | with_reducible refine World.grownBy.trans ?_ (by with_reducible assumption)))⟩
      · rw [if_neg hsh] at hv
        exact absurd hv.symm hE
    · have K2 := Lib.hid (fun w2 (h1 : Ext W0 w2) (hb2 : Blk w2 g 116 (curA A n c (at_ + k))) => num_bad A n c (at_ + k) g l w2 hb2 (hr.ext h1) hk2 hnc hn e2 (by rw [← hu]) he2)
      rw [if_pos he2] at hv
      subst hv
      clear hk hr hb hll hE hT hp hg hu he2
      go_enter Try.func69, Try.ntmps69
      go_wp2_with (first
        | (go_at_call 93; (with_reducible refine (K1.out _ hx0.out).mono ?_); rintro e w1 ⟨rfl, hg1, b1⟩; have hW1 : Ext W0 w1 := Ext.grown (hx.tr hx0.out) hg1 (fun r hr => by cases hr; exact Hg.out); have hgz := hg1.size; have b1' : Blk (w1.alloc (.cells (halfA T p 0 none 0 0) 54)) g 116 (curA A n c (at_ + k)) := BlkA b1; have hW1' : Ext W0 (w1.alloc (.cells (halfA T p 0 none 0 0) 54)) := ExtA hW1; unfold halfA at b1' hW1')
        | (go_at_call 93; go_must (with_reducible refine (K2.out _ hW1' b1').mono ?_); rintro e w2 ⟨he, hg2⟩; unfold ErrPanic at he; subst he))
      exact ⟨rfl, rfl, (by repeat (first | with_reducible exact World.grownBy.refl _ _ | with_reducible assumption | with_reducible refine GrD ?_ | with_reducible refine GrDN ?_ | with_reducible refine GrA ?_ | with_reducible refine grown_set ?_ _ | (with_reducible refine GrN ?_ ?_; (first | omega | (dsimp only; omega) | (simp; done) | (simp; omega))) | (with_reducible refine GrR ?_ ?_; (first | omega | (dsimp only; omega) | (simp; done) | (simp; omega))) | with_reducible refine World.grownBy.trans ?_ (by with_reducible assumption)))⟩
  · have K1 := Lib.hid (fun w1 (h1 : Ext w w1) => num_bad A n c at_ g l w1 (h1.blk hb) (hr.ext (hx.tr h1)) hat hnc hn e (by rw [← hk]) he)
    rw [if_pos he] at hv
    subst hv
    clear hk hr hb he hll hE hg
    go_enter Try.func69, Try.ntmps69
    go_wp2_with (go_at_call 93; go_must (with_reducible refine (K1.out _ hx0.out).mono ?_); rintro e w1 ⟨he, hg1⟩; unfold ErrPanic at he; subst he)
    exact ⟨rfl, rfl, (by repeat (first | with_reducible exact World.grownBy.refl _ _ | with_reducible assumption | with_reducible refine GrD ?_ | with_reducible refine GrDN ?_ | with_reducible refine GrA ?_ | with_reducible refine grown_set ?_ _ | (with_reducible refine GrN ?_ ?_; (first | omega | (dsimp only; omega) | (simp; done) | (simp; omega))) | (with_reducible refine GrR ?_ ?_; (first | omega | (dsimp only; omega) | (simp; done) | (simp; omega))) | with_reducible refine World.grownBy.trans ?_ (by with_reducible assumption)))⟩
end Go.Proofs.Ytipdilmlodakoaa
