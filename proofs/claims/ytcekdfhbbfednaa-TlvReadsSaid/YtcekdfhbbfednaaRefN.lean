/-
  The walk of the reference's Next.
-/
import Derived.Test.YtcekdfhbbfednaaVarE
import Derived.Test.YtcekdfhbbfednaaFsC
import Derived.Test.YtcekdfhbbfednaaPanW
import Derived.Test.YtcekdfhbbfednaaCurF
namespace Go.Proofs.Ytcekdfhbbfednaa
open Go.RowKit
set_option linter.unusedVariables false
set_option linter.unusedSimpArgs false
theorem results_ctt {P : Program} {w : World} {fn : Func} {p q u : Tmp} {t1 : TypeId} {a1 : Addr} {v1 : Value} (h : fn.results = #[.cell p t1, .tmp u, .tmp q]) (tmps : Array Value) (x y : Value) (hp : tmps.getD p undef = .pointer (some a1)) (hu : tmps.getD u undef = x) (hq : tmps.getD q undef = y)
    (h1 : (loadVar t1 a1).run P w = .ok v1 w) : (results fn tmps).run P w = .ok (.tuple #[v1, x, y]) w := by
  have hp' : tmps[p]?.getD undef = .pointer (some a1) := by simpa using hp
  have hq' : tmps[q]?.getD undef = y := by simpa using hq
  have hu' : tmps[u]?.getD undef = x := by simpa using hu
  simp [results, h, hp', hq', hu', asAddr, h1]
def NextPost (w : World) (r : Fld × Nat × Nat) (e : Ending) (w' : World) : Prop :=
  ∃ A c, e = .returned (.tuple #[.agg (fcells r.1 A c), .int .i64 (r.2.1 : Nat), .int .i64 (r.2.2 : Nat)]) ∧ Ext w w' ∧ w'.ownsRow w.heap.size 5 1 (.slice A r.1.bytes.length c) r.1.bytes.length (u8s r.1.bytes)
set_option maxRecDepth 100000 in
set_option maxHeartbeats 4000000 in
theorem next_any (A : Option Addr) (n c : Nat) (last : Int) (l : List UInt8) (w : World) (hr : Rd w A n (u8s l)) (hnc : n ≤ c) (hn : n ≤ 1024) (hlo : 0 ≤ last) (hhi : last ≤ 31) :
    Calls Try.prog 43 #[.slice A n c, .int .i64 last] w (NextPost w (next l last)) := by
  have hll : l.length = n := by have := hr.1; rw [u8s_len] at this; exact this
  obtain ⟨⟨v, k, e⟩, hk⟩ : ∃ x, x = vdec l := ⟨_, rfl⟩
  have K1 : Hid (∀ w', Ext w w' → Calls Try.prog 54 #[.slice A n c] w' fun e' w'' => e' = .returned (.tuple #[.int .u64 (v : Nat), .int .i64 (k : Nat), .int .i64 (e : Nat)]) ∧ w' = w'') :=
    Lib.hid fun w' hx => by have := rvdec_any A n c l w' (hr.ext hx) (by simp only [maxLen]; omega); rw [← hk] at this; exact this
  have HX := Lib.hid (show Ext w ((w.alloc (.cells #[.int .i64 0, .bool false, .int .u64 0, .slice none 0 0] 29)).alloc (.cells #[.int .i64 0, .bool false, .int .u64 0, .slice none 0 0] 29)) from (by repeat (first | with_reducible exact Below.refl _ _ | with_reducible assumption | with_reducible refine ExtD ?_ | with_reducible refine ExtDN ?_ | with_reducible refine ExtA ?_ | (with_reducible refine ExtR ?_ ?_; (first | omega | (dsimp only; omega) | (simp; done) | (simp; omega))) | (with_reducible refine ExtS ?_ ?_; (first | omega | (dsimp only; omega) | (simp; done) | (simp; omega))) | with_reducible refine Ext.tr ?_ (by with_reducible assumption))))
  obtain ⟨V, hV⟩ : ∃ V, V = next l last := ⟨_, rfl⟩
  rw [← hV]
  unfold next at hV
  rw [← hk] at hV
  dsimp only at hV
  by_cases he : e = 0
  · subst he
    rw [if_neg (by simp)] at hV
    by_cases h263 : v < 2 ∨ 63 < v
    · rw [if_pos h263] at hV
      have HV := Lib.hid hV
      have Hv : Hid (v ≤ 18446744073709551615) := Lib.hid (by obtain ⟨_, _, _, h⟩ := vdec_inv hk.symm; omega)
      clear hV hk hr hll
      by_cases h2 : v < 2
      · clear h263
        go_enter Try.func43, Try.ntmps43
        go_wp2_with (go_at_call 54; go_must (with_reducible refine (K1.out _ HX.out).mono ?_); rintro e w1 ⟨rfl, rfl⟩)
        refine bodyPost_ret (v := .tuple #[.agg #[.int .i64 0, .bool false, .int .u64 0, .slice none 0 0], .int .i64 0, .int .i64 (20 : Nat)]) (results_ctt rfl _ _ _ rfl rfl rfl (run_loadVar_blk (cs := #[.int .i64 0, .bool false, .int .u64 0, .slice none 0 0]) (n := 4) (BlkA (BlkN rfl)) fld_wide rfl)) rfl ?_
        unfold NextPost
        rw [HV.out]
        exact ⟨none, 0, rfl, (by repeat (first | with_reducible exact Below.refl _ _ | with_reducible assumption | with_reducible refine ExtD ?_ | with_reducible refine ExtDN ?_ | with_reducible refine ExtA ?_ | (with_reducible refine ExtR ?_ ?_; (first | omega | (dsimp only; omega) | (simp; done) | (simp; omega))) | (with_reducible refine ExtS ?_ ?_; (first | omega | (dsimp only; omega) | (simp; done) | (simp; omega))) | with_reducible refine Ext.tr ?_ (by with_reducible assumption))), World.ownsRow_nil _ _ _ _⟩
      · have h63 : 63 < v := by omega
        clear h263
        go_enter Try.func43, Try.ntmps43
        go_wp2_with (go_at_call 54; go_must (with_reducible refine (K1.out _ HX.out).mono ?_); rintro e w1 ⟨rfl, rfl⟩)
        refine bodyPost_ret (v := .tuple #[.agg #[.int .i64 0, .bool false, .int .u64 0, .slice none 0 0], .int .i64 0, .int .i64 (20 : Nat)]) (results_ctt rfl _ _ _ rfl rfl rfl (run_loadVar_blk (cs := #[.int .i64 0, .bool false, .int .u64 0, .slice none 0 0]) (n := 4) (BlkA (BlkN rfl)) fld_wide rfl)) rfl ?_
        unfold NextPost
        rw [HV.out]
        exact ⟨none, 0, rfl, (by repeat (first | with_reducible exact Below.refl _ _ | with_reducible assumption | with_reducible refine ExtD ?_ | with_reducible refine ExtDN ?_ | with_reducible refine ExtA ?_ | (with_reducible refine ExtR ?_ ?_; (first | omega | (dsimp only; omega) | (simp; done) | (simp; omega))) | (with_reducible refine ExtS ?_ ?_; (first | omega | (dsimp only; omega) | (simp; done) | (simp; omega))) | with_reducible refine Ext.tr ?_ (by with_reducible assumption))), World.ownsRow_nil _ _ _ _⟩
    rw [if_neg h263] at hV
    obtain ⟨T, hT⟩ : ∃ T, T = v / 2 := ⟨_, rfl⟩
    have dT : (v : Int) / 2 = (T : Int) := by omega
    have hT31 : T ≤ 31 := by omega
    have hT1 : 1 ≤ T := by omega
    have h63 : v ≤ 63 := by omega
    have h2 : 2 ≤ v := by omega
    rw [← hT] at hV
    have hkn : k ≤ n := by
      obtain ⟨r, h1, h2, _⟩ := vdec_inv hk.symm
      have := congrArg List.length h1
      simp at this
      omega
    by_cases hl : (T : Int) ≤ last
    · rw [if_pos hl] at hV
      have HV := Lib.hid hV
      clear hV hk hr hll hT h263
      go_enter Try.func43, Try.ntmps43
      go_wp2_with (go_at_call 54; go_must (with_reducible refine (K1.out _ HX.out).mono ?_); rintro e w1 ⟨rfl, rfl⟩)
      refine bodyPost_ret (v := .tuple #[.agg #[.int .i64 0, .bool false, .int .u64 0, .slice none 0 0], .int .i64 0, .int .i64 (21 : Nat)]) (results_ctt rfl _ _ _ rfl rfl rfl (run_loadVar_blk (cs := #[.int .i64 0, .bool false, .int .u64 0, .slice none 0 0]) (n := 4) (BlkA (BlkN rfl)) fld_wide rfl)) rfl ?_
      unfold NextPost
      rw [HV.out]
      exact ⟨none, 0, rfl, (by repeat (first | with_reducible exact Below.refl _ _ | with_reducible assumption | with_reducible refine ExtD ?_ | with_reducible refine ExtDN ?_ | with_reducible refine ExtA ?_ | (with_reducible refine ExtR ?_ ?_; (first | omega | (dsimp only; omega) | (simp; done) | (simp; omega))) | (with_reducible refine ExtS ?_ ?_; (first | omega | (dsimp only; omega) | (simp; done) | (simp; omega))) | with_reducible refine Ext.tr ?_ (by with_reducible assumption))), World.ownsRow_nil _ _ _ _⟩
    rw [if_neg hl] at hV
    obtain ⟨A', hsl, hrd⟩ := slice_lo A n c k hkn hnc
    obtain ⟨⟨u, k2, e2⟩, hu⟩ : ∃ x, x = vdec (l.drop k) := ⟨_, rfl⟩
    rw [← hu] at hV
    dsimp only at hV
    have K2 : Hid (∀ w', Ext w w' → Calls Try.prog 54 #[.slice A' (n - k) (c - k)] w' fun e' w'' => e' = .returned (.tuple #[.int .u64 (u : Nat), .int .i64 (k2 : Nat), .int .i64 (e2 : Nat)]) ∧ w' = w'') :=
      Lib.hid fun w' hx => by have := rvdec_any A' (n - k) (c - k) (l.drop k) w' (hrd w' l (hr.ext hx)) (by simp only [maxLen]; omega); rw [← hu] at this; exact this
    by_cases he2 : e2 = 0
    · subst he2
      rw [if_neg (by simp)] at hV
      have Hv : Hid (u ≤ 18446744073709551615) := Lib.hid (by obtain ⟨_, _, _, h⟩ := vdec_inv hu.symm; omega)
      by_cases hu0 : u = 0
      · rw [if_pos hu0] at hV
        have HV := Lib.hid hV
        have tu : ((u : Int) == 0) = true := by simp [hu0]
        clear hV hk hr hll hT h263 hu hu0 hrd
        go_enter Try.func43, Try.ntmps43
        go_wp2_with (first
          | (go_at_call 54; (with_reducible refine (K1.out _ HX.out).mono ?_); rintro e w1 ⟨rfl, rfl⟩)
          | (go_at_call 54; go_must (with_reducible refine (K2.out _ HX.out).mono ?_); rintro e w1 ⟨rfl, rfl⟩))
        refine bodyPost_ret (v := .tuple #[.agg #[.int .i64 0, .bool false, .int .u64 0, .slice none 0 0], .int .i64 0, .int .i64 (22 : Nat)]) (results_ctt rfl _ _ _ rfl rfl rfl (run_loadVar_blk (cs := #[.int .i64 0, .bool false, .int .u64 0, .slice none 0 0]) (n := 4) (BlkA (BlkN rfl)) fld_wide rfl)) rfl ?_
        unfold NextPost
        rw [HV.out]
        exact ⟨none, 0, rfl, (by repeat (first | with_reducible exact Below.refl _ _ | with_reducible assumption | with_reducible refine ExtD ?_ | with_reducible refine ExtDN ?_ | with_reducible refine ExtA ?_ | (with_reducible refine ExtR ?_ ?_; (first | omega | (dsimp only; omega) | (simp; done) | (simp; omega))) | (with_reducible refine ExtS ?_ ?_; (first | omega | (dsimp only; omega) | (simp; done) | (simp; omega))) | with_reducible refine Ext.tr ?_ (by with_reducible assumption))), World.ownsRow_nil _ _ _ _⟩
      rw [if_neg hu0] at hV
      have tu : ((u : Int) == 0) = false := by simp; exact hu0
      have hk2 : k + k2 ≤ n := by
        obtain ⟨r, h1, h2, _⟩ := vdec_inv hu.symm
        have := congrArg List.length h1
        simp at this
        omega
      by_cases hpar : v % 2 = 0
      · rw [if_pos hpar] at hV
        have HV := Lib.hid hV
        have tp : ((v : Int) % 2 == 0) = true := by simp; omega
        clear hV hk hr hll hT h263 hu hu0 hrd hpar
        go_enter Try.func43, Try.ntmps43
        go_wp2_with (first
          | (go_at_call 54; (with_reducible refine (K1.out _ HX.out).mono ?_); rintro e w1 ⟨rfl, rfl⟩)
          | (go_at_call 54; go_must (with_reducible refine (K2.out _ HX.out).mono ?_); rintro e w1 ⟨rfl, rfl⟩))
        refine bodyPost_ret (v := .tuple #[.agg #[.int .i64 (T : Nat), .bool false, .int .u64 (u : Nat), .slice none 0 0], .int .i64 ((k : Int) + (k2 : Int)), .int .i64 0]) (results_ctt rfl _ _ _ rfl rfl rfl (run_loadVar_blk (cs := #[.int .i64 (T : Nat), .bool false, .int .u64 (u : Nat), .slice none 0 0]) (n := 4) (BlkA (BlkN rfl)) fld_wide rfl)) rfl ?_
        unfold NextPost
        rw [HV.out]
        exact ⟨none, 0, rfl, (by repeat (first | with_reducible exact Below.refl _ _ | with_reducible assumption | with_reducible refine ExtD ?_ | with_reducible refine ExtDN ?_ | with_reducible refine ExtA ?_ | (with_reducible refine ExtR ?_ ?_; (first | omega | (dsimp only; omega) | (simp; done) | (simp; omega))) | (with_reducible refine ExtS ?_ ?_; (first | omega | (dsimp only; omega) | (simp; done) | (simp; omega))) | with_reducible refine Ext.tr ?_ (by with_reducible assumption))), World.ownsRow_nil _ _ _ _⟩
      · rw [if_neg hpar] at hV
        have tp : ((v : Int) % 2 == 0) = false := by simp; omega
        by_cases h200 : 200 < u
        · rw [if_pos h200] at hV
          have HV := Lib.hid hV
          clear hV hk hr hll hT h263 hu hu0 hrd hpar
          go_enter Try.func43, Try.ntmps43
          go_wp2_with (first
            | (go_at_call 54; (with_reducible refine (K1.out _ HX.out).mono ?_); rintro e w1 ⟨rfl, rfl⟩)
            | (go_at_call 54; go_must (with_reducible refine (K2.out _ HX.out).mono ?_); rintro e w1 ⟨rfl, rfl⟩))
          refine bodyPost_ret (v := .tuple #[.agg #[.int .i64 0, .bool false, .int .u64 0, .slice none 0 0], .int .i64 0, .int .i64 (23 : Nat)]) (results_ctt rfl _ _ _ rfl rfl rfl (run_loadVar_blk (cs := #[.int .i64 0, .bool false, .int .u64 0, .slice none 0 0]) (n := 4) (BlkA (BlkN rfl)) fld_wide rfl)) rfl ?_
          unfold NextPost
          rw [HV.out]
          exact ⟨none, 0, rfl, (by repeat (first | with_reducible exact Below.refl _ _ | with_reducible assumption | with_reducible refine ExtD ?_ | with_reducible refine ExtDN ?_ | with_reducible refine ExtA ?_ | (with_reducible refine ExtR ?_ ?_; (first | omega | (dsimp only; omega) | (simp; done) | (simp; omega))) | (with_reducible refine ExtS ?_ ?_; (first | omega | (dsimp only; omega) | (simp; done) | (simp; omega))) | with_reducible refine Ext.tr ?_ (by with_reducible assumption))), World.ownsRow_nil _ _ _ _⟩
        rw [if_neg h200] at hV
        obtain ⟨x, hx2⟩ : ∃ x, x = k + k2 := ⟨_, rfl⟩
        have R0 : (k : Int) + (k2 : Int) = (x : Int) := by omega
        obtain ⟨r, hr2⟩ : ∃ r, r = n - x := ⟨_, rfl⟩
        have R1 : (n : Int) - (k : Int) - (k2 : Int) = (r : Int) := by omega
        by_cases hsh : l.length - k - k2 < u
        · rw [if_pos hsh] at hV
          have HV := Lib.hid hV
          have hru : r < u := by omega
          have HR0 := Lib.hid R0
          clear hV hk hr hll hT h263 hu hu0 hrd hpar hsh hr2 hx2 R0
          go_enter Try.func43, Try.ntmps43
          go_wp2_with (first
            | (go_at_call 54; (with_reducible refine (K1.out _ HX.out).mono ?_); rintro e w1 ⟨rfl, rfl⟩)
            | (go_at_call 54; go_must (with_reducible refine (K2.out _ HX.out).mono ?_); rintro e w1 ⟨rfl, rfl⟩))
          refine bodyPost_ret (v := .tuple #[.agg #[.int .i64 0, .bool false, .int .u64 0, .slice none 0 0], .int .i64 0, .int .i64 (10 : Nat)]) (results_ctt rfl _ _ _ rfl rfl rfl (run_loadVar_blk (cs := #[.int .i64 0, .bool false, .int .u64 0, .slice none 0 0]) (n := 4) (BlkA (BlkN rfl)) fld_wide rfl)) rfl ?_
          unfold NextPost
          rw [HV.out]
          exact ⟨none, 0, rfl, (by repeat (first | with_reducible exact Below.refl _ _ | with_reducible assumption | with_reducible refine ExtD ?_ | with_reducible refine ExtDN ?_ | with_reducible refine ExtA ?_ | (with_reducible refine ExtR ?_ ?_; (first | omega | (dsimp only; omega) | (simp; done) | (simp; omega))) | (with_reducible refine ExtS ?_ ?_; (first | omega | (dsimp only; omega) | (simp; done) | (simp; omega))) | with_reducible refine Ext.tr ?_ (by with_reducible assumption))), World.ownsRow_nil _ _ _ _⟩
        rw [if_neg hsh] at hV
        obtain ⟨y, hy⟩ : ∃ y, y = x + u := ⟨_, rfl⟩
        have R5 : (x : Int) + (u : Int) = (y : Int) := by omega
        have hru : u ≤ r := by omega
        obtain ⟨A2, hsl2, hrd2⟩ := slice_lh A n c x y (by omega) (by omega) hnc
        rw [show y - x = u by omega] at hsl2 hrd2
        obtain ⟨bs, hbs⟩ : ∃ bs, bs = (l.drop x).take u := ⟨_, rfl⟩
        have hV2 : V = (⟨(T : Int), true, 0, bs⟩, y, 0) := by rw [hV, hbs, hx2, hy, hx2]
        have hbl : bs.length = u := by rw [hbs]; simp; omega
        have HV := Lib.hid hV2
        have K3 : Hid (∀ w2, Ext w w2 → Calls Try.prog 19 #[.slice A2 u (c - x)] w2 (NewB w2 bs)) := Lib.hid fun w2 h => copy_any A2 u (c - x) bs w2 (by rw [hbs]; exact hrd2 w2 l (hr.ext h)) (by omega)
        have hB : Hid (∀ w3, Ext ((w.alloc (.cells #[.int .i64 0, .bool false, .int .u64 0, .slice none 0 0] 29)).alloc (.cells #[.int .i64 0, .bool false, .int .u64 0, .slice none 0 0] 29)) w3 → Blk w3 w.heap.size 29 #[.int .i64 0, .bool false, .int .u64 0, .slice none 0 0]) := Lib.hid fun w3 h => h.blk (BlkA (BlkN rfl))
        have hone : Hid (∀ A3 c3, ∀ v ∈ (#[.int .i64 (T : Nat), .bool true, .int .u64 0, .slice A3 bs.length c3] : Array Value).toList, v.oneCell' = true) := Lib.hid fun A3 c3 v hv => by simp at hv; rcases hv with rfl | rfl | rfl | rfl <;> rfl
        clear hV hk hr hll hT h263 hu hu0 hrd hpar hsh hr2 hx2 hy hV2 hbs hrd2 hbl
        go_enter Try.func43, Try.ntmps43
        go_wp2_with (first
          | (go_at_call 54; (with_reducible refine (K1.out _ HX.out).mono ?_); rintro e w1 ⟨rfl, rfl⟩)
          | (go_at_call 54; go_must (with_reducible refine (K2.out _ HX.out).mono ?_); rintro e w1 ⟨rfl, rfl⟩)
          | (go_at_call 19; go_must (with_reducible refine (K3.out _ HX.out).mono ?_); rintro e w3 ⟨A3, c3, rfl, hx3, hown3⟩)
          | (refine wpL_store_row rfl 29 (.tmp 4) (.tmp 91) rfl w.heap.size 29 #[.int .i64 0, .bool false, .int .u64 0, .slice none 0 0] #[.int .i64 (T : Nat), .bool true, .int .u64 0, .slice A3 bs.length c3] rfl rfl (hB.out _ hx3) rfl (hone.out A3 c3) 4 fld_wide rfl ?_))
        refine bodyPost_ret (v := .tuple #[.agg #[.int .i64 (T : Nat), .bool true, .int .u64 0, .slice A3 bs.length c3], .int .i64 (y : Nat), .int .i64 0]) (results_ctt rfl _ _ _ rfl rfl rfl (run_loadVar_blk (cs := #[.int .i64 (T : Nat), .bool true, .int .u64 0, .slice A3 bs.length c3]) (n := 4) (Blk.setRow_ (hB.out _ hx3)) fld_wide rfl)) rfl ?_
        unfold NextPost
        rw [HV.out]
        exact ⟨A3, c3, rfl, (by repeat (first | with_reducible exact Below.refl _ _ | with_reducible assumption | with_reducible refine ExtD ?_ | with_reducible refine ExtDN ?_ | with_reducible refine ExtA ?_ | (with_reducible refine ExtR ?_ ?_; (first | omega | (dsimp only; omega) | (simp; done) | (simp; omega))) | (with_reducible refine ExtS ?_ ?_; (first | omega | (dsimp only; omega) | (simp; done) | (simp; omega))) | with_reducible refine Ext.tr ?_ (by with_reducible assumption))), own_base (own_setRow (by simp; omega) hown3) (by simp; omega)⟩
    · rw [if_pos he2] at hV
      have HV := Lib.hid hV
      have t0 : ((e2 : Int) != 0) = true := by simp; exact he2
      clear hV hk hr hll hT h263 he2 hu hrd
      go_enter Try.func43, Try.ntmps43
      go_wp2_with (first
        | (go_at_call 54; (with_reducible refine (K1.out _ HX.out).mono ?_); rintro e w1 ⟨rfl, rfl⟩)
        | (go_at_call 54; go_must (with_reducible refine (K2.out _ HX.out).mono ?_); rintro e w1 ⟨rfl, rfl⟩))
      refine bodyPost_ret (v := .tuple #[.agg #[.int .i64 0, .bool false, .int .u64 0, .slice none 0 0], .int .i64 0, .int .i64 (e2 : Nat)]) (results_ctt rfl _ _ _ rfl rfl rfl (run_loadVar_blk (cs := #[.int .i64 0, .bool false, .int .u64 0, .slice none 0 0]) (n := 4) (BlkA (BlkN rfl)) fld_wide rfl)) rfl ?_
      unfold NextPost
      rw [HV.out]
      exact ⟨none, 0, rfl, (by repeat (first | with_reducible exact Below.refl _ _ | with_reducible assumption | with_reducible refine ExtD ?_ | with_reducible refine ExtDN ?_ | with_reducible refine ExtA ?_ | (with_reducible refine ExtR ?_ ?_; (first | omega | (dsimp only; omega) | (simp; done) | (simp; omega))) | (with_reducible refine ExtS ?_ ?_; (first | omega | (dsimp only; omega) | (simp; done) | (simp; omega))) | with_reducible refine Ext.tr ?_ (by with_reducible assumption))), World.ownsRow_nil _ _ _ _⟩
  · rw [if_pos he] at hV
    have HV := Lib.hid hV
    have t0 : ((e : Int) != 0) = true := by simp; exact he
    clear hV hk hr hll he
    go_enter Try.func43, Try.ntmps43
    go_wp2_with (go_at_call 54; go_must (with_reducible refine (K1.out _ HX.out).mono ?_); rintro e w1 ⟨rfl, rfl⟩)
    refine bodyPost_ret (v := .tuple #[.agg #[.int .i64 0, .bool false, .int .u64 0, .slice none 0 0], .int .i64 0, .int .i64 (e : Nat)]) (results_ctt rfl _ _ _ rfl rfl rfl (run_loadVar_blk (cs := #[.int .i64 0, .bool false, .int .u64 0, .slice none 0 0]) (n := 4) (BlkA (BlkN rfl)) fld_wide rfl)) rfl ?_
    unfold NextPost
    rw [HV.out]
    exact ⟨none, 0, rfl, (by repeat (first | with_reducible exact Below.refl _ _ | with_reducible assumption | with_reducible refine ExtD ?_ | with_reducible refine ExtDN ?_ | with_reducible refine ExtA ?_ | (with_reducible refine ExtR ?_ ?_; (first | omega | (dsimp only; omega) | (simp; done) | (simp; omega))) | (with_reducible refine ExtS ?_ ?_; (first | omega | (dsimp only; omega) | (simp; done) | (simp; omega))) | with_reducible refine Ext.tr ?_ (by with_reducible assumption))), World.ownsRow_nil _ _ _ _⟩
end Go.Proofs.Ytcekdfhbbfednaa
