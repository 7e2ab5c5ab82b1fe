/-
  The walk of the cursor's field, where the field is right.
-/
import Derived.Test.YtipdilmlodakoaaCurF
import Derived.Test.YtipdilmlodakoaaFsC
import Derived.Deep.RegionHeld3
namespace Go.Proofs.Ytipdilmlodakoaa
open Go.RowKit
set_option linter.unusedVariables false
set_option linter.unusedSimpArgs false
def FieldOk (w : World) (g : Nat) (cs : Array Value) (f : Fld) (e : Ending) (w' : World) : Prop :=
  ∃ A c, e = .returned (.agg (fcells f A c)) ∧ w.grownBy w' (some g) ∧ Blk w' g 116 cs ∧ w'.ownsRow w.heap.size 5 1 (.slice A f.bytes.length c) f.bytes.length (u8s f.bytes)
theorem half_one (T : Nat) (p : Bool) (u : Int) (A : Option Addr) (m c : Nat) : ∀ v ∈ (halfA T p u A m c).toList, v.oneCell' = true := by
  intro v hv; simp [halfA] at hv; rcases hv with rfl | rfl | rfl | rfl <;> rfl
theorem blk_num {w : World} {g T : Nat} {p : Bool} {u u2 : Int} {A : Option Addr} {m c : Nat} (h : Blk w g 54 (halfA T p u A m c)) : Blk (w.setCell ⟨g, 2, none⟩ (.int .u64 u2)) g 54 (halfA T p u2 A m c) := BlkS h
theorem blk_bytes {w : World} {g T : Nat} {p : Bool} {u : Int} {A A2 : Option Addr} {m c m2 c2 : Nat} (h : Blk w g 54 (halfA T p u A m c)) : Blk (w.setCell ⟨g, 3, none⟩ (.slice A2 m2 c2)) g 54 (halfA T p u A2 m2 c2) := BlkS h
theorem blk4 {w w1 w2 : World} {g : Nat} {zs cs : Array Value} (hg : g < w.heap.size) (h1 : (w.alloc (.cells zs 54)).grownBy w1 (some g)) (h2 : (w1.alloc (.cells cs 54)).grownBy w2 (some g)) : Blk w2 w.heap.size 54 zs :=
  BlkG (BlkA (BlkG (BlkN rfl) h1 fun h => by have := Option.some.inj h; omega)) h2 fun h => by have := Option.some.inj h; omega
set_option maxRecDepth 100000 in
set_option maxHeartbeats 4000000 in
theorem field_ok (W0 : World) (A : Option Addr) (n c at_ g : Nat) (last : Int) (l : List UInt8) (w : World) (hb : Blk w g 116 (curA A n c at_)) (hr : Rd W0 A n (u8s l)) (hx : Ext W0 w) (hg : W0.heap.size ≤ g) (hat : at_ ≤ n) (hnc : n ≤ c) (hn : n ≤ 1024) (hlo : 0 ≤ last) (hhi : last ≤ 31) (f : Fld) (m : Nat) (hv : next (l.drop at_) last = (f, m, 0)) :
    Calls Try.prog 69 #[.pointer (some ⟨g, 0, none⟩), .int .i64 last] w (FieldOk w g (curA A n c (at_ + m)) f) := by
  have hll : l.length = n := by have := hr.1; rw [u8s_len] at this; exact this
  have Hgw := Lib.hid hb.lt
  have Hg := Lib.hid hg
  have hx0 : Hid (Ext w (w.alloc (.cells #[.int .i64 0, .bool false, .int .u64 0, .slice none 0 0] 54))) := Lib.hid (by repeat (first | with_reducible exact Below.refl _ _ | with_reducible assumption | with_reducible refine ExtD ?_ | with_reducible refine ExtDN ?_ | with_reducible refine ExtA ?_ | (with_reducible refine ExtR ?_ ?_; (first | omega | (dsimp only; omega) | (simp; done) | (simp; omega))) | (with_reducible refine ExtS ?_ ?_; (first | omega | (dsimp only; omega) | (simp; done) | (simp; omega))) | with_reducible refine Ext.tr ?_ (by with_reducible assumption)))
  obtain ⟨⟨v, k, e⟩, hk⟩ : ∃ x, x = vdec (l.drop at_) := ⟨_, rfl⟩
  unfold next at hv
  rw [← hk] at hv
  dsimp only at hv
  by_cases he : e = 0
  rotate_left
  · rw [if_pos he] at hv; injection hv with h1 h2; injection h2 with h3 h4; exact absurd h4 he
  subst he
  rw [if_neg (by simp)] at hv
  have K1 := Lib.hid (fun w1 (h1 : Ext w w1) => num_ok A n c at_ g l w1 (h1.blk hb) (hr.ext (hx.tr h1)) hat hnc hn v k hk.symm)
  by_cases h263 : v < 2 ∨ 63 < v
  · rw [if_pos h263] at hv; injection hv with h1 h2; injection h2 with h3 h4; cases h4
  rw [if_neg h263] at hv
  obtain ⟨T, hT⟩ : ∃ T, T = v / 2 := ⟨_, rfl⟩
  have dT : (v : Int) / 2 = (T : Int) := by omega
  have hT31 : T ≤ 31 := by omega
  have h63 : v ≤ 63 := by omega
  have hT1 : 1 ≤ T := by omega
  rw [← hT] at hv
  obtain ⟨p, hp⟩ : ∃ p, p = decide (v % 2 = 1) := ⟨_, rfl⟩
  have dp : ((v : Int) % 2 == 1) = p := by
    rw [hp]
    by_cases h : v % 2 = 1
    · simp only [h, decide_true]; simp; omega
    · simp only [h, decide_false]; simp; omega
  have tT : ((T : Int) == 0) = false := by simp; omega
  by_cases hl : (T : Int) ≤ last
  · rw [if_pos hl] at hv; injection hv with h1 h2; injection h2 with h3 h4; cases h4
  rw [if_neg hl, List.drop_drop] at hv
  have hk2 : at_ + k ≤ n := by
    obtain ⟨r, h1, h2, _⟩ := vdec_inv hk.symm
    have := congrArg List.length h1
    simp at this
    omega
  obtain ⟨⟨u, k2, e2⟩, hu⟩ : ∃ x, x = vdec (l.drop (at_ + k)) := ⟨_, rfl⟩
  rw [← hu] at hv
  dsimp only at hv
  by_cases he2 : e2 = 0
  rotate_left
  · rw [if_pos he2] at hv; injection hv with h1 h2; injection h2 with h3 h4; exact absurd h4 he2
  subst he2
  rw [if_neg (by simp)] at hv
  have K2 := Lib.hid (fun w2 (h1 : Ext W0 w2) (hb2 : Blk w2 g 116 (curA A n c (at_ + k))) => num_ok A n c (at_ + k) g l w2 hb2 (hr.ext h1) hk2 hnc hn u k2 hu.symm)
  obtain ⟨x, hx2⟩ : ∃ x, x = at_ + k + k2 := ⟨_, rfl⟩
  rw [← hx2] at K2
  have hxn : x ≤ n := by
    obtain ⟨r, h1, h2, _⟩ := vdec_inv hu.symm
    have := congrArg List.length h1
    simp at this
    omega
  by_cases hu0 : u = 0
  · rw [if_pos hu0] at hv; injection hv with h1 h2; injection h2 with h3 h4; cases h4
  rw [if_neg hu0] at hv
  have tu : ((u : Int) == 0) = false := by simp; exact hu0
  have u200 := Lib.hid (show u ≤ 18446744073709551615 by have := (vdec_inv hu.symm); obtain ⟨_, _, _, h⟩ := this; omega)
  by_cases hpar : v % 2 = 0
  · rw [if_pos hpar] at hv
    obtain rfl : p = false := by rw [hp]; simp; omega
    simp only [Prod.mk.injEq, and_true] at hv
    obtain ⟨hf, hm⟩ := hv
    have hatm : at_ + m = x := by omega
    rw [hatm]
    subst hf
    clear hk hr hb hll hT hp hg hu hu0 hx2 hpar hatm hm h263
    go_enter Try.func69, Try.ntmps69
    go_wp2_with (first
      | (go_at_call 93; (with_reducible refine (K1.out _ hx0.out).mono ?_); rintro e w1 ⟨rfl, hg1, b1⟩; have hW1 : Ext W0 w1 := Ext.grown (hx.tr hx0.out) hg1 (fun r hr => by cases hr; exact Hg.out); have hgz := hg1.size; have b1' : Blk (w1.alloc (.cells (halfA T false 0 none 0 0) 54)) g 116 (curA A n c (at_ + k)) := BlkA b1; have hW1' : Ext W0 (w1.alloc (.cells (halfA T false 0 none 0 0) 54)) := ExtA hW1; unfold halfA at b1' hW1')
      | ((go_at_call 93; (with_reducible refine (K2.out _ hW1' b1').mono ?_); rintro e w2 ⟨rfl, hg2, b2⟩; have hgw2 : g ≠ w1.heap.size := (by have h1 := Hgw.out; have h2 := hx0.out.size; omega); have b6 : Blk w2 w1.heap.size 54 (halfA T false 0 none 0 0) := BlkG (BlkN rfl) hg2 (fun h => hgw2 (Option.some.inj h).symm); have e6_1 : w2.cell? ⟨w1.heap.size, 1, none⟩ = some (.bool false) := b6.cell 1; have d0 : w2.cell? ⟨g, 0, none⟩ = some (.slice A n c) := b2.cell 0; have d1 : w2.cell? ⟨g, 1, none⟩ = some (.int .i64 (x : Nat)) := b2.cell 1); have e6_2 : w2.cell? ⟨w1.heap.size, 2, none⟩ = some (.int .u64 0) := b6.cell 2; have f6_2 := b6.frozen 2; have b4 := blk4 Hgw.out hg1 hg2; have n4 : w.heap.size ≠ w1.heap.size := (by simp at hgz; omega))
      | (refine wpL_load_row rfl 54 (.tmp 6) rfl w1.heap.size 54 (halfA T false u none 0 0) 4 rfl (blk_num b6) fld_wide rfl ?_)
      | (refine wpL_store_row rfl 54 (.tmp 4) (.tmp 41) rfl w.heap.size 54 #[.int .i64 0, .bool false, .int .u64 0, .slice none 0 0] (halfA T false u none 0 0) rfl rfl (BlkF (by exact n4) b4) rfl (half_one _ _ _ _ _ _) 4 fld_wide rfl ?_))
    have b9 : Blk ((w2.setCell ⟨w1.heap.size, 2, none⟩ (.int .u64 u)).setRow w.heap.size (halfA T false u none 0 0)) w.heap.size 54 (halfA T false u none 0 0) := Blk.setRow_ (BlkF (by exact n4) b4)
    have hz1 : w.heap.size + 1 ≤ w1.heap.size := by simpa using hgz
    exact bodyPost_ret (v := .agg (halfA T false u none 0 0)) (res_row rfl _ _ _ 54 _ 4 rfl b9 fld_wide rfl) rfl ⟨none, 0, rfl, (by repeat (first | with_reducible exact World.grownBy.refl _ _ | with_reducible assumption | with_reducible refine GrD ?_ | with_reducible refine GrDN ?_ | with_reducible refine GrA ?_ | with_reducible refine grown_set ?_ _ | (with_reducible refine GrN ?_ ?_; (first | omega | (dsimp only; omega) | (simp; done) | (simp; omega))) | (with_reducible refine GrR ?_ ?_; (first | omega | (dsimp only; omega) | (simp; done) | (simp; omega))) | with_reducible refine World.grownBy.trans ?_ (by with_reducible assumption))), BlkR (by have := Hgw.out; omega) (BlkF hgw2 b2), World.ownsRow_nil _ _ _ _⟩
  · rw [if_neg hpar] at hv
    obtain rfl : p = true := by rw [hp]; simp; omega
    by_cases h200 : 200 < u
    · rw [if_pos h200] at hv; injection hv with h1 h2; injection h2 with h3 h4; cases h4
    rw [if_neg h200] at hv
    by_cases hsh : (l.drop at_).length - k - k2 < u
    · rw [if_pos hsh] at hv; injection hv with h1 h2; injection h2 with h3 h4; cases h4
    rw [if_neg hsh] at hv
    simp only [Prod.mk.injEq, and_true, List.drop_drop] at hv
    obtain ⟨hf, hm⟩ := hv
    obtain ⟨y, hy⟩ : ∃ y, y = x + u := ⟨_, rfl⟩
    have hatm : at_ + m = y := by omega
    have hyn : y ≤ n := by rw [List.length_drop] at hsh; omega
    rw [hatm]
    have hu200 : u ≤ 200 := by omega
    obtain ⟨A', hsl, hrd⟩ := slice_lh A n c x y (by omega) hyn hnc
    have hyx : y - x = u := by omega
    rw [hyx] at hsl hrd
    obtain ⟨bs, hbs⟩ : ∃ bs, bs = (l.drop x).take u := ⟨_, rfl⟩
    have hbl : bs.length = u := by rw [hbs]; simp; omega
    have hf2 : f = ⟨(T : Int), true, 0, bs⟩ := by rw [← hf, hbs, hx2]; simp only [Nat.add_assoc]
    obtain ⟨r, hr2⟩ : ∃ r, r = n - x := ⟨_, rfl⟩
    have hru : u ≤ r := by omega
    have R1 : IntKind.i64.wrap ((n : Int) - (x : Int)) = (r : Int) := by rw [IntKind.wrap_i64]; omega
    have R2 : IntKind.u64.wrap (r : Int) = (r : Int) := by rw [IntKind.wrap_u64]; omega
    have R3 : IntKind.i64.wrap (u : Int) = (u : Int) := by rw [IntKind.wrap_i64]; omega
    have R4 : IntKind.i64.wrap ((x : Int) + (u : Int)) = (y : Int) := by rw [IntKind.wrap_i64]; omega
    have R5 : (x : Int) + (u : Int) = (y : Int) := by omega
    have Hcl : Hid (∀ w2, Ext W0 w2 → Calls Try.prog 53 #[.slice A' u (c - x)] w2 (NewB w2 bs)) := Lib.hid fun w2 h => clone_any A' u (c - x) bs w2 (by rw [hbs]; exact hrd w2 l (hr.ext h)) (by omega)
    subst hf2
    have HR4 := Lib.hid R4
    have HR5 := Lib.hid R5
    have Hbl := Lib.hid hbl
    clear hk hr hb hll hT hp hg hu hu0 hx2 hpar hatm hm h263 hf hsh hbs hr2 hrd hyx hy hbl R4 R5
    go_enter Try.func69, Try.ntmps69
    go_wp2_with (first
      | (go_at_call 93; (with_reducible refine (K1.out _ hx0.out).mono ?_); rintro e w1 ⟨rfl, hg1, b1⟩; have hW1 : Ext W0 w1 := Ext.grown (hx.tr hx0.out) hg1 (fun r hr => by cases hr; exact Hg.out); have hgz := hg1.size; have b1' : Blk (w1.alloc (.cells (halfA T true 0 none 0 0) 54)) g 116 (curA A n c (at_ + k)) := BlkA b1; have hW1' : Ext W0 (w1.alloc (.cells (halfA T true 0 none 0 0) 54)) := ExtA hW1; unfold halfA at b1' hW1')
      | ((go_at_call 93; (with_reducible refine (K2.out _ hW1' b1').mono ?_); rintro e w2 ⟨rfl, hg2, b2⟩; have hgw2 : g ≠ w1.heap.size := (by have h1 := Hgw.out; have h2 := hx0.out.size; omega); have b6 : Blk w2 w1.heap.size 54 (halfA T true 0 none 0 0) := BlkG (BlkN rfl) hg2 (fun h => hgw2 (Option.some.inj h).symm); have e6_1 : w2.cell? ⟨w1.heap.size, 1, none⟩ = some (.bool true) := b6.cell 1; have d0 : w2.cell? ⟨g, 0, none⟩ = some (.slice A n c) := b2.cell 0; have d1 : w2.cell? ⟨g, 1, none⟩ = some (.int .i64 (x : Nat)) := b2.cell 1); have e6_3 : w2.cell? ⟨w1.heap.size, 3, none⟩ = some (.slice none 0 0) := b6.cell 3; have f6_3 := b6.frozen 3; have b4 := blk4 Hgw.out hg1 hg2; have n4 : w.heap.size ≠ w1.heap.size := (by simp at hgz; omega)))
    go_quiet (fail)
    go_wp2_with fail
    have R4 := HR4.out
    go_region_held3 (fun w' => w'.cell? ⟨g, 0, none⟩ = some (.slice A n c) ∧ w'.cell? ⟨g, 1, none⟩ = some (.int .i64 (x : Nat)))
      (first
        | go_keep
        | exact ⟨c2.cell 0, c2.cell 1⟩
        | exact ⟨(BlkF (by exact hgw2) c2).cell 0, (BlkF (by exact hgw2) c2).cell 1⟩)
      (first
        | (go_at_call 53; (with_reducible refine (Hcl.out _ (ExtDN (Ext.grown hW1' hg2 (fun r hr => by cases hr; exact Hg.out)))).mono ?_); rintro e w3 ⟨A3, c3, rfl, hx3, hown3⟩; have c6 : Blk w3 w1.heap.size 54 (halfA T true 0 none 0 0) := hx3.blk (BlkDN b6); have c2 : Blk w3 g 116 (curA A n c x) := hx3.blk (BlkDN b2); have e7 : w3.cell? ⟨w1.heap.size, 3, none⟩ = some (.slice none 0 0) := c6.cell 3; have f7 := c6.frozen 3))
    have q2 := BlkF (p := ⟨w1.heap.size, 3, none⟩) (u := .slice A3 bs.length c3) (by exact hgw2) c2
    have q6 := blk_bytes (A2 := A3) (m2 := bs.length) (c2 := c3) c6
    have q4 := BlkF (p := ⟨w1.heap.size, 3, none⟩) (u := .slice A3 bs.length c3) (by exact n4) (hx3.blk (BlkDN b4))
    have hz1 : w.heap.size + 1 ≤ w1.heap.size := by simpa using hgz
    have hz2 : w1.heap.size + 1 ≤ w2.heap.size := by simpa using hg2.size
    have Hown3 := Lib.hid hown3
    have HG : Hid (w.grownBy ((w3.setCell ⟨w1.heap.size, 3, none⟩ (.slice A3 bs.length c3)).setCell ⟨g, 1, none⟩ (.int .i64 (y : Nat))) (some g)) := by
      have hg3 : w2.grownBy w3 (some g) := (grown_drewN (World.grownBy.refl w2 (some g)) _).trans (ext_grown hx3 (some g))
      exact Lib.hid (by repeat (first | with_reducible exact World.grownBy.refl _ _ | with_reducible assumption | with_reducible refine GrD ?_ | with_reducible refine GrDN ?_ | with_reducible refine GrA ?_ | with_reducible refine grown_set ?_ _ | (with_reducible refine GrN ?_ ?_; (first | omega | (dsimp only; omega) | (simp; done) | (simp; omega))) | (with_reducible refine GrR ?_ ?_; (first | omega | (dsimp only; omega) | (simp; done) | (simp; omega))) | with_reducible refine World.grownBy.trans ?_ (by with_reducible assumption)))
    generalize hZ : w3.setCell ⟨w1.heap.size, 3, none⟩ (.slice A3 bs.length c3) = Z at *
    have HZ := Lib.hid hZ
    clear hZ
    have d0 : Z.cell? ⟨g, 0, none⟩ = some (.slice A n c) := q2.cell 0
    have d1 : Z.cell? ⟨g, 1, none⟩ = some (.int .i64 (x : Nat)) := q2.cell 1
    have f1 := q2.frozen 1
    have R5 := HR5.out
    clear R1 R2 R4 hsl
    go_wp2_with (first
      | (refine wpL_load_row rfl 54 (.tmp 6) rfl w1.heap.size 54 (halfA T true 0 A3 bs.length c3) 4 rfl (BlkF (by exact Ne.symm hgw2) q6) fld_wide rfl ?_)
      | (refine wpL_store_row rfl 54 (.tmp 4) (.tmp 88) rfl w.heap.size 54 #[.int .i64 0, .bool false, .int .u64 0, .slice none 0 0] (halfA T true 0 A3 bs.length c3) rfl rfl (BlkF (by have := Hgw.out; dsimp only; omega) q4) rfl (half_one _ _ _ _ _ _) 4 fld_wide rfl ?_))
    have b9 : Blk ((Z.setCell ⟨g, 1, none⟩ (.int .i64 (y : Nat))).setRow w.heap.size (halfA T true 0 A3 bs.length c3)) w.heap.size 54 (halfA T true 0 A3 bs.length c3) := Blk.setRow_ (BlkF (by have := Hgw.out; dsimp only; omega) q4)
    have hGZ := HG.out
    refine bodyPost_ret (v := .agg (halfA T true 0 A3 bs.length c3)) (res_row rfl _ _ _ 54 _ 4 rfl b9 fld_wide rfl) rfl ⟨A3, c3, rfl, (by repeat (first | with_reducible exact World.grownBy.refl _ _ | with_reducible assumption | with_reducible refine GrD ?_ | with_reducible refine GrDN ?_ | with_reducible refine GrA ?_ | with_reducible refine grown_set ?_ _ | (with_reducible refine GrN ?_ ?_; (first | omega | (dsimp only; omega) | (simp; done) | (simp; omega))) | (with_reducible refine GrR ?_ ?_; (first | omega | (dsimp only; omega) | (simp; done) | (simp; omega))) | with_reducible refine World.grownBy.trans ?_ (by with_reducible assumption))), BlkR (by have := Hgw.out; omega) (BlkS q2), ?_⟩
    rw [← HZ.out]
    have h1 := own_base Hown3.out (show w1.heap.size + 1 ≤ (w2.drewN (nq + 1)).heap.size by simpa using hz2)
    have h2 := own_setCell (p := ⟨w1.heap.size, 3, none⟩) (u := .slice A3 bs.length c3) (by dsimp only; omega) h1
    have h3 := own_setCell (p := ⟨g, 1, none⟩) (u := .int .i64 (y : Nat)) (by have := Hgw.out; dsimp only; omega) h2
    exact own_base (own_setRow (by omega) h3) (by omega)
end Go.Proofs.Ytipdilmlodakoaa
