/-
  scan.Each: its closure's contract for a loop; scan.All.
-/
import Derived.Test.YtjajbbgebblalaaGreatDoorCrcP
import Derived.Test.YtjajbbgebblalaaGreatDoorSsW
import Derived.Test.YtjajbbgebblalaaGreatDoorFrmD
import Derived.Test.YtjajbbgebblalaaGreatDoorRngK
import Derived.Test.YtjajbbgebblalaaGreatDoorHand
import Derived.RangeFuncNested
import Derived.RangeFuncBound
import Derived.RangeFuncCalls
import Derived.RangeFuncLeaves
import Derived.Shelf.Abstract
import Derived.WalkKit
import Derived.OwnWalkIn
import Derived.TacticsInMore
import Derived.LoopNIn
import Derived.LoopIn
namespace Go.Proofs.YtjajbbgebblalaaGreatDoor
open Go.RowKit
set_option linter.unusedVariables false
set_option linter.unusedSimpArgs false
open Go.Shelf
attribute [local go_sem] Oper.semAt_some
/-- What an iterator hands out: a place, a frame, its body's slice. -/
abbrev EFr := (Nat × Frm) × Option Addr × Nat
def efEnc (x : EFr) : Array Value := #[.int .i64 (x.1.1 : Nat), .agg #[.int .i64 (x.1.2.1 : Nat), .int .i64 (x.1.2.2.1 : Nat), .slice x.2.1 x.1.2.2.2.length x.2.2]]
/-- What a round must keep. -/
def KpE (n₀ Bs : Nat) (W W' : World) : Prop := Below n₀ W W' ∧ W'.heap[Bs]? = W.heap[Bs]? ∧ ∀ (k : Nat) (cs : Array Value) f, W.heap[k]? = some (.cells cs 5 f) → W'.heap[k]? = W.heap[k]?
theorem KpE.refl (n₀ Bs : Nat) (W : World) : KpE n₀ Bs W W := ⟨Below.refl _ _, rfl, fun _ _ _ _ => rfl⟩
theorem KpE.trans {n₀ Bs : Nat} {A B C : World} (h : KpE n₀ Bs A B) (k : KpE n₀ Bs B C) : KpE n₀ Bs A C :=
  ⟨h.1.trans k.1, k.2.1.trans h.2.1, fun i cs f hi => by have h1 := h.2.2 i cs f hi; exact (k.2.2 i cs f (h1.trans hi)).trans h1⟩
theorem KpE.put {n₀ Bs : Nat} {w : World} (hn : n₀ ≤ w.heap.size) (h1 : Bs < w.heap.size) (W : World) (l : Nat) (o o' : Obj) (hl : w.heap.size ≤ l) (h : W.heap[l]? = some o) (hc : o.isCells = false) (hw : o.isWalk = false) : KpE n₀ Bs W (W.putObj l o') :=
  ⟨belowK_b hn W l o o' hl h hc hw, World.putObj_heap_other (by omega), fun k cs f hk => World.putObj_heap_other (fun e => by subst e; rw [h] at hk; cases hk; cases hc)⟩
theorem KpE.ext {n₀ Bs : Nat} {W W' : World} (hn : n₀ ≤ W.heap.size) (hB : Bs < W.heap.size) (h : Ext W W') : KpE n₀ Bs W W' :=
  ⟨h.mono hn, h.block Bs hB, fun k cs f hk => h.block k (Array.getElem?_eq_some_iff.1 hk).1⟩
theorem KpE.own {n₀ Bs base n c : Nat} {W W' : World} {A : Option Addr} {l : List UInt8} (h : KpE n₀ Bs W W') (ho : W.ownsRow base 5 1 (.slice A n c) n (u8s l)) : W'.ownsRow base 5 1 (.slice A n c) n (u8s l) := by
  refine own_heap ho fun g hg => ?_
  rcases ho.2 with ⟨hv, _⟩ | ⟨g2, cap, cur, hv, _, hg2, _⟩
  · rw [hv] at hg; cases hg
  · rw [hv] at hg
    simp only [Value.ownBlock, Option.some.injEq] at hg
    subst hg
    exact h.2.2 _ _ _ hg2
/-- What is known of a frame that is handed out. -/
def EfK (m : Nat) (x : EFr) : Prop := x.1.2.2.2.length ≤ 16384 ∧ x.1.1 + (20 + x.1.2.2.2.length) ≤ m
/-- What has come when the iterator ends. -/
def EfS (B0 : Nat) (b : List UInt8) (k : Nat) (xs : List EFr) (W : World) : Prop := xs.map (·.1) = plcs b k ∧ ∀ x ∈ xs, W.ownsRow B0 5 1 (.slice x.2.1 x.1.2.2.2.length x.2.2) x.1.2.2.2.length (u8s x.1.2.2.2)
theorem EfS.from {B0 D : Nat} {b : List UInt8} {k : Nat} : OwnFrom D (EfS B0 b k) := fun xs W W' row hs hg hr => ⟨hs.1, fun x hx => by
  have ho := hs.2 x hx
  refine own_heap ho fun g hg2 => ?_
  rcases ho.2 with ⟨hv, _⟩ | ⟨g2, cap, cur, hv, _, hg3, _⟩
  · rw [hv] at hg2; cases hg2
  · rw [hv] at hg2
    simp only [Value.ownBlock, Option.some.injEq] at hg2
    subst hg2
    exact grownBy_keeps_cells hg (fun r e => (hr r e).2) hg3 rfl⟩
set_option maxRecDepth 100000 in
set_option maxHeartbeats 4000000 in
theorem each1_in (n l Bs : Nat) (hn : 1 ≤ n) (A : Option Addr) (m c : Nat) (b : List UInt8) (W0 W : World) (hx0 : Ext W0 W) (hN : Nib W0) (hrd : Rd W0 A m (u8s b)) (hmc : m ≤ c) (hm : m ≤ maxLen)
    (J Jx : List EFr → World → Prop) (hJ : AbidesFrom W.heap.size J)
    (hY : ∀ pre x W1, J pre W1 → EfK m x → pre.length < (scn b).1.length → YieldAt Fence.wide (n - 1) Tryz.prog l (efEnc x) W1 fun e W' =>
      (e = .returned (.bool true) ∧ J (pre ++ [x]) W' ∧ KpE W0.heap.size Bs W1 W') ∨ (e = .returned (.bool false) ∧ Jx (pre ++ [x]) W' ∧ KpE W0.heap.size Bs W1 W'))
    (hBs : Bs < W.heap.size) (hBc : W.cell? ⟨Bs, 0, none⟩ = some (.slice A m c)) (h0 : J [] W) :
    CallsIn Fence.wide n Tryz.prog 166 #[.func (.yield l) #[] #[], .pointer (some ⟨Bs, 0, none⟩)] W fun e W' => (∃ v, e = .returned v) ∧
      ((∃ ys, EfS W0.heap.size b (scn b).1.length ys W' ∧ J ys W') ∨ (∃ pre, True ∧ Jx pre W')) := by
  have hlen : b.length = m := by have := hrd.1; rw [u8s_len] at this; exact this
  refine callsIn_of_wp Tryz.func166 rfl trivial ?_ rfl
  simp only [Tryz.ntmps166, List.size_toArray, List.length_cons, List.length_nil, Nat.reduceAdd, Nat.reduceSub, Array.replicate_succ, Array.replicate_zero, List.push_toArray, List.append_toArray, List.nil_append, List.cons_append]
  gi_wp2
  gi_loopw [3] (fun i wr => ∃ (k : Nat) (xs : List EFr), k ≤ (scn b).1.length ∧ i = .int .i64 (offB b k : Nat) ∧ EfS W0.heap.size b k xs wr ∧ J xs wr ∧ KpE W0.heap.size Bs W wr ∧ W.heap.size ≤ wr.heap.size)
    (fun i _ => m - (intOf i).toNat)
  case atStart => exact ⟨0, [], Nat.zero_le _, rfl, ⟨rfl, fun x hx => by cases hx⟩, h0, KpE.refl _ _ _, Nat.le_refl _⟩
  case round =>
    obtain ⟨k, xs, hk, rfl, hE, hJx, hK, hz⟩ := hrel
    have hcb := (show wr.cell? ⟨Bs, 0, none⟩ = W.cell? ⟨Bs, 0, none⟩ by unfold World.cell?; simp only [hK.2.1]).trans hBc
    have hxr : Ext W0 wr := ⟨hK.1.os.trans hx0.os, hK.1.tape.trans hx0.tape, hK.1.output.trans hx0.output, Nat.le_trans hx0.size hz, fun i hi => (hK.1.block i hi).trans (hx0.block i hi)⟩
    by_cases hlt : k < (scn b).1.length
    · obtain ⟨f, hf⟩ : ∃ f, (scn b).1[k]? = some f := ⟨_, List.getElem?_eq_getElem hlt⟩
      obtain ⟨hd, hof⟩ := scn_step hf
      have hfo := scn_ok b f (List.mem_of_getElem? hf)
      have hos := offB_succ hf
      have hps := plcs_succ hf
      have hol := offB_le b (k + 1) hlt
      rw [hlen] at hof hol
      obtain ⟨A', hsl, hrd'⟩ := slice_lo A m c (offB b k) (by omega) hmc
      have KD := Lib.hid fun W1 (hx1 : Ext W0 W1) => fdec_any A' (m - offB b k) (c - offB b k) (b.drop (offB b k)) W1 (hN.ext hx1) (hrd' W1 b (hrd.ext hx1)) (by omega) (by omega)
      rw [hd] at KD
      unfold DcPost frcells at KD
      obtain ⟨kd, sq, body⟩ := f
      dsimp only at KD hos
      obtain ⟨lb, hlb⟩ : ∃ lb, lb = body.length := ⟨_, rfl⟩
      rw [← hlb] at KD hos
      obtain ⟨sz, hsz⟩ : ∃ sz, sz = 20 + lb := ⟨_, rfl⟩
      rw [← hsz] at KD hos
      have hofk : (offB b k : Int) < (m : Int) := by omega
      have hxl : xs.length = k := by have := congrArg List.length hE.1; rw [List.length_map, plcs_len b k hk] at this; exact this
      have hm47 : m ≤ 140737488355328 ∨ True := .inr trivial
      have hol2 : offB b k + (20 + body.length) ≤ m := by rw [hos, hsz, hlb] at hol; exact hol
      have HY : Hid (∀ A1 c1 w1, Ext wr w1 → YieldAt Fence.wide (n - 1) Tryz.prog l #[.int .i64 (offB b k : Nat), .agg #[.int .i64 (kd : Nat), .int .i64 (sq : Nat), .slice A1 lb c1]] (w1.alloc (.cells #[.int .i64 (kd : Nat), .int .i64 (sq : Nat), .slice A1 lb c1] 119)) fun e W' =>
          (e = .returned (.bool true) ∧ J (xs ++ [((offB b k, kd, sq, body), A1, c1)]) W' ∧ KpE W0.heap.size Bs (w1.alloc (.cells #[.int .i64 (kd : Nat), .int .i64 (sq : Nat), .slice A1 lb c1] 119)) W') ∨ (e = .returned (.bool false) ∧ Jx (xs ++ [((offB b k, kd, sq, body), A1, c1)]) W' ∧ KpE W0.heap.size Bs (w1.alloc (.cells #[.int .i64 (kd : Nat), .int .i64 (sq : Nat), .slice A1 lb c1] 119)) W')) := Lib.hid fun A1 c1 w1 hx1 => by
        rw [hlb]
        exact hY xs ((offB b k, kd, sq, body), A1, c1) _ (hJ xs wr _ none hJx (ext_grown (ExtA hx1) none) (fun r e => by cases e)) ⟨hfo.2.2.2, hol2⟩ (by rw [hxl]; exact hlt)
      have HEnd : Hid (∀ A1 c1 w1 W3, Ext wr w1 → w1.ownsRow wr.heap.size 5 1 (.slice A1 lb c1) lb (u8s body) → KpE W0.heap.size Bs (w1.alloc (.cells #[.int .i64 (kd : Nat), .int .i64 (sq : Nat), .slice A1 lb c1] 119)) W3 →
          EfS W0.heap.size b (k + 1) (xs ++ [((offB b k, kd, sq, body), A1, c1)]) W3 ∧ KpE W0.heap.size Bs W W3 ∧ W.heap.size ≤ W3.heap.size) := Lib.hid fun A1 c1 w1 W3 hx1 ho1 hk3 => by
        have hzr := hxr.size
        have hx2 : Ext wr (w1.alloc (.cells #[.int .i64 (kd : Nat), .int .i64 (sq : Nat), .slice A1 lb c1] 119)) := ExtA hx1
        refine ⟨⟨by rw [List.map_append, hE.1, hps]; rfl, fun x hx => ?_⟩, hK.trans ((KpE.ext hzr (by omega) hx2).trans hk3), ?_⟩
        · rcases List.mem_append.1 hx with hx | hx
          · exact hk3.own (own_ext hx2 (hE.2 x hx))
          · rw [List.mem_singleton.1 hx]
            dsimp only
            rw [← hlb]
            exact hk3.own (own_ext (ExtA (Ext.rfl' w1)) (own_base ho1 hzr))
        · have := hk3.1.size
          have := hx2.size
          omega
      have Hos := Lib.hid hos
      have Hol := Lib.hid hol
      have hsb : sz ≤ m := by rw [hos] at hol; omega
      have hoz : offB b k + sz ≤ m := by rw [hos] at hol; omega
      have Hxr := Lib.hid hxr
      have hsz1 : 1 ≤ sz := by omega
      have hofn : offB b k < m := hof
      have hm9 : m ≤ 9223372036854775807 := by simp only [maxLen] at hm; omega
      have ew : IntKind.i64.wrap ((offB b k : Int) + (sz : Int)) = ((offB b k + sz : Nat) : Int) := by rw [IntKind.wrap_i64]; omega
      clear hos hol hlb hsz hd hof hfo hps hf hK hE hJx hxr hY hrd' hm47 hol2
      gi_wp2_with (first
        | (refine ⟨trivial, ?_⟩; gi_at_call 130; go_loud (refine (callsIn_wide.2 (KD.out _ Hxr.out)).mono ?_; rintro e w1 ⟨A1, c1, rfl, hx1, ho1, -⟩; obtain ⟨fn, tmps, assign, body2, hy, hR⟩ := HY.out A1 c1 w1 hx1)))
      refine hR.mono ?_
      rintro e W3 (⟨rfl, hJ3, hk3⟩ | ⟨rfl, hJx3, -⟩)
      · obtain ⟨hE3, hK3, hz3⟩ := HEnd.out A1 c1 w1 W3 hx1 ho1 hk3
        gi_wp2
        go_roundw
        case rel => exact ⟨k + 1, _, hlt, by rw [Hos.out]; go_num, hE3, hJ3, hK3, hz3⟩
        case measure => simp [intOf]; omega
      · gi_wp2
        refine bodyPost_ret (results_none rfl _ _ _) rfl ?_
        exact ⟨⟨_, rfl⟩, .inr ⟨_, trivial, hJx3⟩⟩
    · obtain rfl : k = (scn b).1.length := by omega
      have hoe := offB_end b
      have hrs := scn_rest b
      have hgl := (scn_good b).2.1
      rw [hlen] at hrs hgl
      by_cases hE0 : (scn b).2.2 = 0
      · have hof : offB b (scn b).1.length = m := by rw [hoe]; exact hrs.1.1 hE0
        rw [hof]
        clear hof hoe hrs hgl hE0 hxr
        gi_wp2
        go_end0
        exact ⟨⟨_, rfl⟩, .inl ⟨_, hE, hJx⟩⟩
      · have hof : offB b (scn b).1.length < m := by
          rw [hoe]
          rcases Nat.lt_or_ge (scn b).2.1 m with h | h
          · exact h
          · exact absurd (hrs.1.2 (by omega)) hE0
        have hde : (fdec (b.drop (offB b (scn b).1.length))).2.2 = (scn b).2.2 := by rw [hoe]; exact hrs.2 hE0
        obtain ⟨A', hsl, hrd'⟩ := slice_lo A m c (offB b (scn b).1.length) (by omega) hmc
        have KD := Lib.hid fun W1 (hx1 : Ext W0 W1) => fdec_any A' (m - offB b (scn b).1.length) (c - offB b (scn b).1.length) (b.drop (offB b (scn b).1.length)) W1 (hN.ext hx1) (hrd' W1 b (hrd.ext hx1)) (by omega) (by omega)
        obtain ⟨⟨⟨k1, s1, b1⟩, n1, E1⟩, hfd⟩ : ∃ x, x = fdec (b.drop (offB b (scn b).1.length)) := ⟨_, rfl⟩
        rw [← hfd] at KD hde
        unfold DcPost frcells at KD
        dsimp only at KD hde
        have hE1 : ¬ (E1 : Int) = 0 := by rw [hde]; omega
        have x1 : ((E1 : Int) != 0) = true := by simp; omega
        have hofk : (offB b (scn b).1.length : Int) < (m : Int) := by omega
        have Hxr := Lib.hid hxr
        generalize offB b (scn b).1.length = of at *
        obtain ⟨lb, hlb⟩ : ∃ lb, lb = b1.length := ⟨_, rfl⟩
        rw [← hlb] at KD
        have HE := Lib.hid hE
        clear hoe hrs hgl hE0 hde hfd hrd' hxr hof hlb hE
        gi_wp2_with (first
          | (refine ⟨trivial, ?_⟩; gi_at_call 130; go_loud (refine (callsIn_wide.2 (KD.out _ Hxr.out)).mono ?_; rintro e w1 ⟨A1, c1, rfl, hx1, ho1, -⟩)))
        refine ⟨fun _ h => (by cases h), ?_⟩
        gi_wp2
        refine bodyPost_ret (results_none rfl _ _ _) rfl ?_
        have hx2 : Ext wr (w1.alloc (.cells #[.int .i64 (k1 : Nat), .int .i64 (s1 : Nat), .slice A1 lb c1] 119)) := ExtA hx1
        exact ⟨⟨_, rfl⟩, .inl ⟨xs, ⟨HE.out.1, fun x hx => own_ext hx2 (HE.out.2 x hx)⟩, hJ xs wr _ none hJx (ext_grown hx2 none) (fun r e => by cases e)⟩⟩
theorem each_any (A : Option Addr) (m c : Nat) (w : World) : Calls Tryz.prog 128 #[.slice A m c] w fun e w' => e = .returned (.func (.func 166) #[] #[.pointer (some ⟨w.heap.size, 0, none⟩)]) ∧ w' = w.alloc (.cells #[.slice A m c] 36) := by
  go_enter Tryz.func128, Tryz.ntmps128
  go_wp2_with fail
  go_ret
  exact ⟨rfl, rfl⟩
theorem each_kn (n Bs : Nat) (hn : 1 ≤ n) (A : Option Addr) (m c : Nat) (b : List UInt8) (W0 w : World) (hx0 : Ext W0 w) (hN : Nib W0) (hrd : Rd W0 A m (u8s b)) (hmc : m ≤ c) (hm : m ≤ maxLen) (hBs : Bs < w.heap.size) (hBc : w.cell? ⟨Bs, 0, none⟩ = some (.slice A m c)) :
    SeqKn Fence.wide n Tryz.prog 166 #[.pointer (some ⟨Bs, 0, none⟩)] efEnc (fun x _ => EfK m x) (KpE W0.heap.size Bs) (EfS W0.heap.size b (scn b).1.length) (fun _ _ => True) (scn b).1.length w := fun l J Jx W hW hl1 hl2 hJ _ hY h0 => by
  have hx : Ext W0 W := ⟨hW.os.trans hx0.os, hW.tape.trans hx0.tape, hW.output.trans hx0.output, Nat.le_trans hx0.size hW.size, fun i hi => (hW.block i (Nat.lt_of_lt_of_le hi hx0.size)).trans (hx0.block i hi)⟩
  exact each1_in n l Bs hn A m c b W0 W hx hN hrd hmc hm J Jx hJ hY (Nat.lt_of_lt_of_le hBs hW.size) ((hW.cell (p := ⟨Bs, 0, none⟩) hBs).trans hBc) h0
theorem results_t3 {P : Program} {w : World} {fn : Func} {x y z : Tmp} {vx vy vz : Value} (h : fn.results = #[.tmp x, .tmp y, .tmp z]) (tmps : Array Value) (hx : tmps.getD x undef = vx) (hy : tmps.getD y undef = vy) (hz : tmps.getD z undef = vz) : (results fn tmps).run P w = .ok (.tuple #[vx, vy, vz]) w := by
  subst hx hy hz
  simp [results, h]
theorem five_one (a b c d n m : Nat) (A : Option Addr) : ∀ v ∈ (#[.int .i64 (a : Nat), .int .i64 (b : Nat), .int .i64 (c : Nat), .int .i64 (d : Nat), .slice A n m] : Array Value).toList, v.oneCell' = true := by
  intro v hv
  simp at hv
  rcases hv with rfl | rfl | rfl | rfl | rfl <;> rfl
set_option maxRecDepth 100000 in
set_option maxHeartbeats 4000000 in
theorem placed_any (at_ kd sq : Nat) (A : Option Addr) (n c : Nat) (w : World) (hn : n ≤ 16384) :
    Calls Tryz.prog 129 #[.int .i64 (at_ : Nat), .agg #[.int .i64 (kd : Nat), .int .i64 (sq : Nat), .slice A n c]] w fun e w' => e = .returned (.agg #[.int .i64 (at_ : Nat), .int .i64 (20 + n : Nat), .int .i64 (kd : Nat), .int .i64 (sq : Nat), .slice A n c]) ∧ Ext w w' := by
  have hal := alloc_pl
  go_enter Tryz.func129, Tryz.ntmps129
  go_upto_region 1 with fail
  refine wp_region_held_drew (S := fun w' => Ext w w' ∧ Blk w' w.heap.size 119 #[.int .i64 (kd : Nat), .int .i64 (sq : Nat), .slice A n c]) (by kernel_rfl) ⟨ExtD (ExtA (ExtA (Ext.rfl' w))), BlkD (BlkA (BlkN rfl))⟩ (fun hS => ?_)
  refine takeD (some 5) (i := 0) (oi := ⟨some 5, _, _, _, _, _⟩) (v := .int .i64 (at_ : Nat)) rfl rfl (by kernel_rfl) (by kernel_rfl) (by kernel_rfl) (fun _ _ _ h => h) (Or.inl ⟨by kernel_rfl, fun w' hw => by go_simp⟩) hS ?_; (try simp only [Act.put, List.setIfInBounds_toArray, List.set_cons_zero, List.set_cons_succ])
  refine takeD (some 6) (i := 1) (oi := ⟨some 6, _, _, _, _, _⟩) (v := .pointer (some ⟨w.heap.size, 2, none⟩)) rfl rfl (by kernel_rfl) (by kernel_rfl) (by kernel_rfl) (fun _ _ _ h => h) (Or.inl ⟨by kernel_rfl, fun w' hw => by go_simp⟩) hS ?_; (try simp only [Act.put, List.setIfInBounds_toArray, List.set_cons_zero, List.set_cons_succ])
  refine takeD (some 7) (i := 2) (oi := ⟨some 7, _, _, _, _, _⟩) (v := .slice A n c) rfl rfl (by kernel_rfl) (by kernel_rfl) (by kernel_rfl) (fun _ _ _ h => h) (Or.inl ⟨by kernel_rfl, fun w' hw => by have hc0 := hw.2.cell 2; go_simp⟩) hS ?_; (try simp only [Act.put, List.setIfInBounds_toArray, List.set_cons_zero, List.set_cons_succ])
  refine takeD (some 8) (i := 3) (oi := ⟨some 8, _, _, _, _, _⟩) (v := .int .i64 (n : Nat)) rfl rfl (by kernel_rfl) (by kernel_rfl) (by kernel_rfl) (fun _ _ _ h => h) (Or.inl ⟨by kernel_rfl, fun w' hw => by go_simp⟩) hS ?_; (try simp only [Act.put, List.setIfInBounds_toArray, List.set_cons_zero, List.set_cons_succ])
  refine takeD (some 10) (i := 5) (oi := ⟨some 10, _, _, _, _, _⟩) (v := .agg #[.int .i64 (kd : Nat), .int .i64 (sq : Nat), .slice A n c]) rfl rfl (by kernel_rfl) (by kernel_rfl) (by kernel_rfl) (fun _ _ _ h => h) (yields_row (by kernel_rfl) 119 (.tmp 3) rfl w.heap.size 119 #[.int .i64 (kd : Nat), .int .i64 (sq : Nat), .slice A n c] 3 rfl (fun w' hw => hw.2) fr_wide rfl) hS ?_; (try simp only [Act.put, List.setIfInBounds_toArray, List.set_cons_zero, List.set_cons_succ])
  refine wpAnyH_ready (rs := [4]) (by kernel_rfl) (by simp) (AllReadyH.cons (o := ⟨some 9, _, _, _, _, _⟩) rfl (fun K hK => ?_) AllReadyH.nil)
  refine step_callG rfl (some 9) rfl 167 _ Tryz.func167 (by kernel_rfl) (by kernel_rfl) _ _ rfl #[.int .i64 (n : Nat)] (by first | rfl | simp [Act.eval, Act.put]) _ (fsize_any n _ hn) ?_; rintro e w1 ⟨rfl, hx1⟩; refine ⟨_, rfl, hK.out _ _ ⟨Ext.tr hS.1 hx1, BlkE hS.2 hx1⟩ ?_⟩; intro hS; clear hK; (try simp only [Act.put, List.setIfInBounds_toArray, List.set_cons_zero, List.set_cons_succ])
  refine takeD (some 11) (i := 6) (oi := ⟨some 11, _, _, _, _, _⟩) (v := .agg #[.int .i64 (at_ : Nat), .int .i64 (20 + n : Nat), .int .i64 (kd : Nat), .int .i64 (sq : Nat), .slice A n c]) rfl rfl (by kernel_rfl) (by kernel_rfl) (by kernel_rfl) (fun _ _ _ h => h) (Or.inl ⟨by kernel_rfl, fun w' hw => by go_simp⟩) hS ?_; (try simp only [Act.put, List.setIfInBounds_toArray, List.set_cons_zero, List.set_cons_succ])
  refine wpAnyH_ready (rs := [7]) (by kernel_rfl) (by simp) (AllReadyH.cons (o := ⟨none, _, _, _, _, _⟩) rfl (fun K hK => ?_) AllReadyH.nil)
  have b4 : Blk w1 (w.heap.size + 1) 152 #[.int .i64 0, .int .i64 0, .int .i64 0, .int .i64 0, .slice none 0 0] := BlkE (BlkD (BlkN (by simp))) hx1
  refine step_store_row rfl none rfl 152 (.tmp 4) (.tmp 11) rfl (w.heap.size + 1) 152 _ #[.int .i64 (at_ : Nat), .int .i64 (20 + n : Nat), .int .i64 (kd : Nat), .int .i64 (sq : Nat), .slice A n c] rfl rfl b4 rfl (five_one _ _ _ _ _ _ _) 5 pl_wide rfl ?_; refine hK.out _ _ ⟨ExtR (by omega) hS.1, BlkR (by omega) hS.2⟩ ?_; intro hS; clear hK; (try simp only [Act.put, List.setIfInBounds_toArray, List.set_cons_zero, List.set_cons_succ])
  refine wpAnyH_done (by kernel_rfl) ?_ _
  go_wp2_with fail
  refine bodyPost_ret (v := .agg #[.int .i64 (at_ : Nat), .int .i64 (20 + n : Nat), .int .i64 (kd : Nat), .int .i64 (sq : Nat), .slice A n c]) (res_row rfl _ _ (w.heap.size + 1) 152 _ 5 rfl (Blk.setRow_ b4) pl_wide rfl) rfl ?_
  exact ⟨rfl, hS.1⟩
theorem placed_s (at_ kd sq : Nat) (A : Option Addr) (n c sz : Nat) (hs : sz = 20 + n) (w : World) (hn : n ≤ 16384) :
    Calls Tryz.prog 129 #[.int .i64 (at_ : Nat), .agg #[.int .i64 (kd : Nat), .int .i64 (sq : Nat), .slice A n c]] w fun e w' => e = .returned (.agg #[.int .i64 (at_ : Nat), .int .i64 (sz : Nat), .int .i64 (kd : Nat), .int .i64 (sq : Nat), .slice A n c]) ∧ Ext w w' := by
  subst hs
  exact placed_any at_ kd sq A n c w hn
theorem wpIn_append_pl {F : Fence} {fn_ : Nat} {w : World} {ops : Array Oper} {rest : List Oper} {o : Oper} {a : Act} {Q : Exit → Act → World → Prop} (hgd : o.guard = none) (s x : Operand)
    (ho : o.op = .call { callee := .builtin .append, args := #[s, x], argTypes := #[148, 148] }) (W : World)
    {A0 : Option Addr} {n0 c0 : Nat} {l : List HPl} (hs : a.eval s = .slice A0 n0 c0) (hown : w.ownsRow W.heap.size 152 5 (.slice A0 n0 c0) n0 (plCells l)) (hW : Ext W w)
    {A : Option Addr} {m c : Nat} {news : List HPl} (hx : a.eval x = .slice A m c) (hr : RdN w 5 A m (plCells news)) (hb : (l.length + news.length) * 56 ≤ 140737488355328)
    (h : ∀ A' n' c' w', Ext W w' → Hid (n' = l.length + news.length) → w'.ownsRow W.heap.size 152 5 (.slice A' n' c') n' (plCells (l ++ news)) →
      w.grownBy w' (Value.slice A0 n0 c0).ownBlock → wpListIn F fn_ Tryz.prog ops Q rest (a.put o.dst (.slice A' n' c')) w') : wpListIn F fn_ Tryz.prog ops Q (o :: rest) a w := by
  obtain ⟨A', n', c', w', hrun, h1, h2, h3, h4, h5⟩ := run_append_pl o.type W hown hW hr hb (c := c)
  refine wpListIn_plain hgd fun K hK => ?_
  unfold Oper.wpIn
  refine ⟨by simp [Oper.about, ho, resolve, Target.leads, Sem.run_pure], ?_⟩
  rw [Oper.semAt_plain F _ _ (by rw [ho]; intro c hc'; cases hc')]
  simp [execOp, ho, resolve, invoke, builtin, hs, hx, hrun, Result.andThen]
  exact hK _ _ (h A' n' c' w' h1 h2 h3 h5)
/-- The placed frames of a reading. -/
def plOf (p : Nat × Frm) : Nat × Nat × Frm := (p.1, 20 + p.2.2.2.length, p.2)
def plL (b : List UInt8) : List (Nat × Nat × Frm) := (plcs b (scn b).1.length).map plOf
def ScPost (w : World) (b : List UInt8) (e : Ending) (w' : World) : Prop :=
  ∃ A c hs, e = .returned (.tuple #[.slice A (scn b).1.length c, .int .i64 ((scn b).2.1 : Nat), .int .i64 ((scn b).2.2 : Nat)]) ∧ hs.map (·.1) = plL b ∧ Ext w w' ∧ OwnPl w' w.heap.size A (scn b).1.length c hs
def toPl (x : EFr) : HPl := (plOf x.1, x.2.1, x.2.2)
def goodOf (pre : List EFr) : Nat := (pre.getLast?.map fun x => x.1.1 + (20 + x.1.2.2.2.length)).getD 0
def AlI (w : World) (g5 g6 Bs : Nat) (cs : Array Value) (pre : List EFr) (W : World) : Prop :=
  ∃ B d, Ext w W ∧ Blk W g5 148 #[.slice B pre.length d] ∧ Blk W g6 3 #[.int .i64 (goodOf pre : Nat)] ∧ W.ownsRow w.heap.size 152 5 (.slice B pre.length d) pre.length (plCells (pre.map toPl)) ∧ Blk W Bs 36 cs
theorem alI_from {w : World} {g5 g6 Bs D : Nat} {cs : Array Value} (hB : w.heap.size ≤ D) : OwnFrom D (AlI w g5 g6 Bs cs) := by
  rintro pre W W' row ⟨B, d, h1, h2, h3, h4, h5⟩ hg hr
  have hc := fun r e => (hr r e).2
  exact ⟨B, d, Below.grown h1 hg h1.size (fun k e => by have := (hr k e).1; omega), blk_from h2 hg hc, blk_from h3 hg hc, own_from h4 hg hc, blk_from h5 hg hc⟩
theorem own_ne_blk {w : World} {base s n c g : Nat} {e t : TypeId} {A : Option Addr} {xs : List Value} {cs : Array Value} (h : w.ownsRow base e s (.slice A n c) n xs) (hb : Blk w g t cs) (ht : t ≠ e) : (Value.slice A n c).ownBlock ≠ some g := fun hc => by
  obtain ⟨cur, h2⟩ := own_cells h g hc
  unfold Blk at hb h2
  rw [hb] at h2
  simp at h2
  exact ht h2.2
theorem good_snoc (pre : List EFr) (x : EFr) : goodOf (pre ++ [x]) = x.1.1 + (20 + x.1.2.2.2.length) := by simp [goodOf]
/-- What a round of All owes at its end. -/
theorem al_round {w W w1 w3 : World} {g6 g7 k d lb sz at_ kd sq n3 c1 c3 : Nat} {B A1 A3 : Option Addr} {body : List UInt8} {cs C5 : Array Value} {pre : List EFr} (hk : k = pre.length) (hlb : lb = body.length) (hsz : sz = 20 + lb)
    (hx : Ext w W) (h5 : Blk W w.heap.size 148 #[.slice B k d]) (h6 : Blk W g6 3 #[.int .i64 (goodOf pre : Nat)]) (h7 : Blk W g7 36 cs) (hg6 : w.heap.size ≤ g6) (h56 : w.heap.size ≠ g6) (ho : W.ownsRow w.heap.size 152 5 (.slice B k d) k (plCells (pre.map toPl)))
    (hx1 : Ext W w1) (hx3 : Ext w w3) (hn3 : n3 = k + 1) (hown3 : w3.ownsRow w.heap.size 152 5 (.slice A3 n3 c3) n3 (plCells (pre.map toPl ++ [((at_, sz, kd, sq, body), A1, c1)])))
    (hg3 : ((w1.alloc (.cells C5 152)).alloc (.cells C5 152)).grownBy w3 (Value.slice B k d).ownBlock) :
    KeepsOthers W ((w3.setCell ⟨w.heap.size, 0, none⟩ (.slice A3 n3 c3)).setCell ⟨g6, 0, none⟩ (.int .i64 (at_ + sz : Nat))) ∧ KpE w.heap.size g7 W ((w3.setCell ⟨w.heap.size, 0, none⟩ (.slice A3 n3 c3)).setCell ⟨g6, 0, none⟩ (.int .i64 (at_ + sz : Nat))) ∧
      AlI w w.heap.size g6 g7 cs (pre ++ [((at_, kd, sq, body), A1, c1)]) ((w3.setCell ⟨w.heap.size, 0, none⟩ (.slice A3 n3 c3)).setCell ⟨g6, 0, none⟩ (.int .i64 (at_ + sz : Nat))) := by
  have hxA : Ext W ((w1.alloc (.cells C5 152)).alloc (.cells C5 152)) := ExtA (ExtA hx1)
  have z5 : Blk w3 w.heap.size 148 #[.slice B k d] := BlkG (BlkE h5 hxA) hg3 (fun e => own_ne_blk ho h5 (by decide) e.symm)
  have z6 := BlkG (BlkE h6 hxA) hg3 (fun e => own_ne_blk ho h6 (by decide) e.symm)
  have z7 := BlkG (BlkE h7 hxA) hg3 (fun e => own_ne_blk ho h7 (by decide) e.symm)
  have n57 : w.heap.size ≠ g7 := fun e => by
    have h1 : W.heap[w.heap.size]? = some (.cells #[.slice B k d] 148 (0, 0)) := h5
    have h2 : W.heap[g7]? = some (.cells cs 36 (0, 0)) := h7
    rw [e] at h1
    rw [h1] at h2
    simp at h2
  have n67 : g6 ≠ g7 := fun e => by
    have h1 : W.heap[g6]? = some (.cells _ 3 (0, 0)) := h6
    have h2 : W.heap[g7]? = some (.cells cs 36 (0, 0)) := h7
    rw [e] at h1
    rw [h1] at h2
    simp at h2
  have y5 : Blk ((w3.setCell ⟨w.heap.size, 0, none⟩ (.slice A3 n3 c3)).setCell ⟨g6, 0, none⟩ (.int .i64 (at_ + sz : Nat))) w.heap.size 148 #[.slice A3 n3 c3] := BlkF (p := ⟨g6, 0, none⟩) h56 (Blk_eq (BlkS (i := 0) (u := .slice A3 n3 c3) z5) rfl)
  have y6 : Blk ((w3.setCell ⟨w.heap.size, 0, none⟩ (.slice A3 n3 c3)).setCell ⟨g6, 0, none⟩ (.int .i64 (at_ + sz : Nat))) g6 3 #[.int .i64 (at_ + sz : Nat)] := Blk_eq (BlkS (i := 0) (u := .int .i64 (at_ + sz : Nat)) (BlkF (p := ⟨w.heap.size, 0, none⟩) (Ne.symm h56) z6)) rfl
  have y7 : Blk ((w3.setCell ⟨w.heap.size, 0, none⟩ (.slice A3 n3 c3)).setCell ⟨g6, 0, none⟩ (.int .i64 (at_ + sz : Nat))) g7 36 cs := BlkF (p := ⟨g6, 0, none⟩) (Ne.symm n67) (BlkF (p := ⟨w.heap.size, 0, none⟩) (Ne.symm n57) z7)
  have hxE : Ext w ((w3.setCell ⟨w.heap.size, 0, none⟩ (.slice A3 n3 c3)).setCell ⟨g6, 0, none⟩ (.int .i64 (at_ + sz : Nat))) := ExtS hg6 (ExtS (Nat.le_refl _) hx3)
  have hblk : ∀ i, i < W.heap.size → i ≠ w.heap.size → i ≠ g6 → (Value.slice B k d).ownBlock ≠ some i → ((w3.setCell ⟨w.heap.size, 0, none⟩ (.slice A3 n3 c3)).setCell ⟨g6, 0, none⟩ (.int .i64 (at_ + sz : Nat))).heap[i]? = W.heap[i]? := fun i hi h1 h2 h3 => by
    have e1 := Below.heap_setCell (w3.setCell ⟨w.heap.size, 0, none⟩ (.slice A3 n3 c3)) ⟨g6, 0, none⟩ (.int .i64 (at_ + sz : Nat)) i h2
    have e2 := Below.heap_setCell w3 ⟨w.heap.size, 0, none⟩ (.slice A3 n3 c3) i h1
    have e3 := hg3.block i (Nat.lt_of_lt_of_le hi hxA.size) (Ne.symm h3)
    have e4 := hxA.block i hi
    exact e1.trans (e2.trans (e3.trans e4))
  have hsz3 : W.heap.size ≤ w3.heap.size := Nat.le_trans hxA.size hg3.size
  have sE : ((w3.setCell ⟨w.heap.size, 0, none⟩ (.slice A3 n3 c3)).setCell ⟨g6, 0, none⟩ (.int .i64 (at_ + sz : Nat))).heap.size = w3.heap.size := by simp
  refine ⟨⟨by rw [sE]; exact hsz3, fun i o hi hc => ?_⟩, ⟨?_, y7.trans h7.symm, fun i cs2 f hi => ?_⟩, ⟨A3, c3, hxE, ?_, ?_, ?_, y7⟩⟩
  · have hil := (Array.getElem?_eq_some_iff.1 hi).1
    refine (hblk i hil (fun e => ?_) (fun e => ?_) (fun e => ?_)).trans hi
    · have h1 : W.heap[w.heap.size]? = some (.cells #[.slice B k d] 148 (0, 0)) := h5
      rw [e, h1] at hi; cases hi; cases hc
    · have h1 : W.heap[g6]? = some (.cells _ 3 (0, 0)) := h6
      rw [e, h1] at hi; cases hi; cases hc
    · obtain ⟨cur, h2⟩ := own_cells ho i e
      have h1 : W.heap[i]? = some (.cells cur 152 (0, 0)) := h2
      rw [h1] at hi; cases hi; cases hc
  · exact ⟨hxE.os.trans hx.os.symm, hxE.tape.trans hx.tape.symm, hxE.output.trans hx.output.symm, by rw [sE]; exact hsz3, fun i hi => (hxE.block i hi).trans (hx.block i hi).symm⟩
  · have hil := (Array.getElem?_eq_some_iff.1 hi).1
    refine hblk i hil (fun e => ?_) (fun e => ?_) (fun e => ?_)
    · have h1 : W.heap[w.heap.size]? = some (.cells #[.slice B k d] 148 (0, 0)) := h5
      rw [e, h1] at hi; simp at hi
    · have h1 : W.heap[g6]? = some (.cells _ 3 (0, 0)) := h6
      rw [e, h1] at hi; simp at hi
    · obtain ⟨cur, h2⟩ := own_cells ho i e
      have h1 : W.heap[i]? = some (.cells cur 152 (0, 0)) := h2
      rw [h1] at hi; simp at hi
  · rw [List.length_append, ← hk, List.length_singleton, ← hn3]; exact y5
  · rw [good_snoc]; dsimp only; rw [← hlb, ← hsz]; exact y6
  · rw [List.length_append, ← hk, List.length_singleton, ← hn3, List.map_append]
    have ht : [((at_, kd, sq, body), A1, c1)].map toPl = [((at_, sz, kd, sq, body), A1, c1)] := by simp [toPl, plOf, hsz, hlb]
    rw [ht]
    have a1 := own_ne_blk hown3 z5 (by decide)
    have a2 := own_ne_blk hown3 z6 (by decide)
    refine own_heap hown3 fun i hi => ?_
    rw [Below.heap_setCell _ _ _ i (fun e => a2 (by rw [hi]; exact congrArg some e)), Below.heap_setCell _ _ _ i (fun e => a1 (by rw [hi]; exact congrArg some e))]
theorem good_end {b : List UInt8} {xs : List EFr} (h : xs.map (·.1) = plcs b (scn b).1.length) : goodOf xs = (scn b).2.1 := by
  rw [← offB_end]
  have hk : (scn b).1.length ≤ (scn b).1.length := Nat.le_refl _
  generalize hn : (scn b).1.length = n at h
  have hk : n ≤ (scn b).1.length := by omega
  clear hn
  cases n with
  | zero =>
    have : xs = [] := List.map_eq_nil_iff.1 (h.trans (by simp [plcs]))
    subst this
    simp [goodOf, offB, layF]
  | succ k =>
    obtain ⟨f, hf⟩ : ∃ f, (scn b).1[k]? = some f := ⟨_, List.getElem?_eq_getElem (by omega)⟩
    rw [plcs_succ hf] at h
    rw [offB_succ hf]
    rcases List.eq_nil_or_concat xs with rfl | ⟨ys, x, rfl⟩
    · simp at h
    · rw [List.concat_eq_append] at h ⊢
      rw [List.map_append] at h
      obtain ⟨_, h2⟩ := List.append_inj' h rfl
      simp at h2
      rw [good_snoc, h2]
set_option maxRecDepth 100000 in
set_option maxHeartbeats 8000000 in
theorem scanall_any (A : Option Addr) (m c : Nat) (b : List UInt8) (w : World) (hN : Nib w) (hrd : Rd w A m (u8s b)) (hmc : m ≤ c) (hm : m ≤ 1099511627776) :
    Calls Tryz.prog 86 #[.slice A m c] w (ScPost w b) := by
  refine callsIn_wide.1 (callsIn_of_wp_marks (n := 6) Tryz.func86 rfl trivial ?_ rfl)
  refine wpIn_wide.2 ?_
  simp only [Tryz.ntmps86, List.size_toArray, List.length_cons, List.length_nil, Nat.reduceAdd, Nat.reduceSub, Array.replicate_succ, Array.replicate_zero, List.push_toArray, List.append_toArray, List.nil_append, List.cons_append]
  go_wp2_with (go_at_call 128; refine (each_any _ _ _ _).mono ?_; rintro e w8 ⟨rfl, hw8'⟩; have hw8 := Lib.hid hw8'; clear hw8')
  have hx8 : Ext w w8 := by rw [hw8.out]; exact ExtA (ExtA (ExtA (Ext.rfl' w)))
  have b5 : Blk w8 w.heap.size 148 #[.slice none 0 0] := by rw [hw8.out]; exact BlkA (BlkA (BlkN rfl))
  have b6 : Blk w8 (w.heap.size + 1) 3 #[.int .i64 0] := by rw [hw8.out]; exact BlkA (BlkN (by simp))
  have b7 : Blk w8 (w.heap.size + 1 + 1) 36 #[.slice A m c] := by rw [hw8.out]; exact BlkN (by simp)
  have hg5 : w.heap.size ≤ w.heap.size := Nat.le_refl _
  have hg56 : w.heap.size ≠ w.heap.size + 1 := by omega
  have hB3 : w.heap.size + 1 + 1 < w8.heap.size := b7.lt
  have hg6 : w.heap.size ≤ w.heap.size + 1 := by omega
  generalize w.heap.size + 1 + 1 = g7 at *
  generalize hg : w.heap.size + 1 = g6 at *
  have hg5e : ∃ g5, g5 = w.heap.size := ⟨_, rfl⟩
  clear hw8
  have hns : 20 * (scn b).1.length ≤ m := by have h1 := scn_good b; have h2 : b.length = m := by have := hrd.1; rw [u8s_len] at this; exact this
                                             omega
  refine (wpIn_wide (n := 6)).1 ?_
  refine' wpIn_range_kn (n := 6) rfl (by decide) (gf := 166) (lb := #[.pointer (some ⟨g7, 0, none⟩)]) rfl trivial (enters_of Tryz.func166 (by kernel_rfl) rfl)
    (each_kn 5 g7 (by decide) A m c b w w8 hx8 hN hrd hmc (by simp only [maxLen]; omega) hB3 (b7.cell 0))
    (fun h k => KpE.trans h k) (KpE.put hx8.size hB3) (fun _ => rfl)
    (AlI w w.heap.size g6 g7 #[.slice A m c]) (fun _ _ _ => False) (alI_from hx8.size) (fun _ _ _ _ _ hs _ _ => hs) (fun _ _ _ _ h _ _ => h) EfS.from (fun _ _ _ _ h _ _ => h)
    ⟨none, 0, hx8, b5, b6, World.ownsRow_nil _ _ _ _, b7⟩
    (fun x a' W => ∃ p, Blk W p 119 #[.int .i64 (x.1.2.1 : Nat), .int .i64 (x.1.2.2.1 : Nat), .slice x.2.1 x.1.2.2.2.length x.2.2] ∧ a' = { tmps := #[.slice A m c, undef, .slice none 0 0, .int .i64 0, .int .i64 0, .pointer (some ⟨w.heap.size, 0, none⟩), .pointer (some ⟨g6, 0, none⟩), .int .i64 (x.1.1 : Nat), .pointer (some ⟨p, 0, none⟩), undef, undef, undef, undef, .slice A m c, .func (.func 166) #[] #[.pointer (some ⟨g7, 0, none⟩)], .int .i64 (x.1.1 : Nat), .agg #[.int .i64 (x.1.2.1 : Nat), .int .i64 (x.1.2.2.1 : Nat), .slice x.2.1 x.1.2.2.2.length x.2.2], undef, undef, undef, undef, undef, undef, undef, undef, undef, undef, undef, undef, undef, undef, undef, undef, undef, undef, undef, undef, undef, undef, undef, undef, undef, undef, undef, undef], defers := [] })
    (fun x a' => fun _ W W' row ⟨p, hp, he⟩ hg hr => ⟨p, blk_from hp hg (fun r e => (hr r e).2), he⟩) ?assign ?body ?done ?stop
  case stop =>
    rintro D c pre W _ _ h _
    exact h.elim
  case assign =>
    intro l pre x W K hI hkn hK
    obtain ⟨⟨at_, kd, sq, body⟩, A1, c1⟩ := x
    unfold efEnc
    dsimp only
    obtain ⟨lb, hlb⟩ : ∃ lb, lb = body.length := ⟨_, rfl⟩
    rw [← hlb]
    have HK : Hid (∀ a', a' = ({ tmps := #[.slice A m c, undef, .slice none 0 0, .int .i64 0, .int .i64 0, .pointer (some ⟨w.heap.size, 0, none⟩), .pointer (some ⟨g6, 0, none⟩), .int .i64 (at_ : Nat), .pointer (some ⟨W.heap.size, 0, none⟩), undef, undef, undef, undef, .slice A m c, .func (.func 166) #[] #[.pointer (some ⟨g7, 0, none⟩)], .int .i64 (at_ : Nat), .agg #[.int .i64 (kd : Nat), .int .i64 (sq : Nat), .slice A1 lb c1], undef, undef, undef, undef, undef, undef, undef, undef, undef, undef, undef, undef, undef, undef, undef, undef, undef, undef, undef, undef, undef, undef, undef, undef, undef, undef, undef, undef], defers := [] } : Act) → K a' (W.alloc (.cells #[.int .i64 (kd : Nat), .int .i64 (sq : Nat), .slice A1 lb c1] 119))) := Lib.hid fun a' ha => by
      subst hlb
      obtain ⟨B, d, h1, h2, h3, h4, h5⟩ := hI
      have hzw := h1.size
      exact hK a' _ (KeepsOthers.alloc _ _) (KpE.ext hzw h5.lt (ExtA (Ext.rfl' W))) ⟨B, d, ExtA h1, BlkA h2, BlkA h3, own_ext (ExtA (Ext.rfl' W)) h4, BlkA h5⟩ hkn ⟨W.heap.size, BlkN rfl, ha⟩
    clear hlb hI hK hkn
    gi_wp2
    exact HK.out _ rfl
  case body =>
    rintro l pre x a' W ⟨B, d, hx, hb5, hb6, ho, hb7⟩ ⟨hkl, hka⟩ ⟨p, hp, rfl⟩ hlen
    obtain ⟨⟨at_, kd, sq, body⟩, A1, c1⟩ := x
    dsimp only at hp hkl hka
    refine wpIn_block ?_
    obtain ⟨lb, hlb⟩ : ∃ lb, lb = body.length := ⟨_, rfl⟩
    have Hlb := Lib.hid hlb
    rw [← hlb] at hp hkl hka
    obtain ⟨k, hk⟩ : ∃ k, k = pre.length := ⟨_, rfl⟩
    have Hk := Lib.hid hk
    rw [← hk] at hb5 ho hlen
    have hkl2 : (pre.map toPl).length = k := by rw [List.length_map, hk]
    have f0 := hp.cell 0
    have f1 := hp.cell 1
    have f2 := hp.cell 2
    have HX := Lib.hid hx
    have H5 := Lib.hid hb5
    have H6 := Lib.hid hb6
    have H7 := Lib.hid hb7
    have HO := Lib.hid ho
    have hzw := hx.size
    have hx5 : w.heap.size < W.heap.size := hb5.lt
    have hx6 : g6 < W.heap.size := hb6.lt
    obtain ⟨sz, hsz⟩ : ∃ sz, sz = 20 + lb := ⟨_, rfl⟩
    have Hsz := Lib.hid hsz
    have KPl := Lib.hid fun W1 => placed_s at_ kd sq A1 lb c1 sz hsz W1 hkl
    rw [← hsz] at hka
    have cw : IntKind.i64.wrap ((at_ : Int) + (sz : Int)) = ((at_ + sz : Nat) : Int) := by rw [IntKind.wrap_i64]; omega
    have HK2 := Lib.hid hk
    clear hlb hk hx hb5 hb6 hb7 ho hp hsz
    gi_wp2_with (first
      | (refine ⟨trivial, ?_⟩; gi_at_call 129; refine (CallsIn.inRound l (callsIn_wide.2 (KPl.out _))).mono ?_; go_loud (rintro e w1 ⟨rfl, hx1⟩; have q5 : ∀ ob, (w1.alloc ob).cell? ⟨w.heap.size, 0, none⟩ = some (.slice B k d) := fun ob => (BlkA (BlkE H5.out hx1)).cell 0; have hz1 := hx1.size))
      | (gi_at_builtin; go_loud (refine wpIn_append_pl rfl (.tmp 20) (.tmp 22) rfl w rfl (own_ext (ExtA (ExtA hx1)) HO.out) (ExtA (ExtA (HX.out.tr hx1))) rfl (news := [((at_, sz, kd, sq, body), A1, c1)]) (by have h9 := pl_new (w1.alloc (.cells #[.int .i64 (at_ : Nat), .int .i64 (sz : Nat), .int .i64 (kd : Nat), .int .i64 (sq : Nat), .slice A1 lb c1] 152)) (w1.heap.size + 1) (at_, sz, kd, sq, body) A1 c1 (by simp); unfold plcells at h9; dsimp only at h9; rw [← Hlb.out] at h9; exact h9) (by rw [hkl2]; show (k + 1) * 56 ≤ _; omega) ?_; intro A3 n3 c3 w3 hx3 hn3 hown3 hg3; have z5 := BlkG (BlkA (BlkA (BlkE H5.out hx1))) hg3 (fun e => own_ne_blk HO.out H5.out (by decide) e.symm); have z6 := BlkG (BlkA (BlkA (BlkE H6.out hx1))) hg3 (fun e => own_ne_blk HO.out H6.out (by decide) e.symm); have z9 : Blk w3 w1.heap.size 152 #[.int .i64 (at_ : Nat), .int .i64 (sz : Nat), .int .i64 (kd : Nat), .int .i64 (sq : Nat), .slice A1 lb c1] := BlkG (BlkA (BlkN rfl)) hg3 (fun e => by have := ((own_ext hx1 HO.out).lt _ e.symm).2; omega); have c5 := z5.cell 0; have r5 := z5.frozen 0; have y9 := (BlkF (p := ⟨w.heap.size, 0, none⟩) (u := .slice A3 n3 c3) (show w1.heap.size ≠ w.heap.size by omega) z9).cell 1; have y6 := (BlkF (p := ⟨w.heap.size, 0, none⟩) (u := .slice A3 n3 c3) (Ne.symm hg56) z6).cell 0; have s6 := (BlkF (p := ⟨w.heap.size, 0, none⟩) (u := .slice A3 n3 c3) (Ne.symm hg56) z6).frozen 0)))
    have hn3' : n3 = k + 1 := by have := hn3.out; rw [hkl2, List.length_singleton] at this; exact this
    have hr := al_round HK2.out Hlb.out Hsz.out HX.out H5.out H6.out H7.out hg6 hg56 HO.out hx1 hx3 hn3' hown3 hg3
    rw [Int.natCast_add] at hr
    exact hr
  case done =>
    rintro D xs W hD hS ⟨B, d, hx, hb5, hb6, ho, hb7⟩ hK
    have hge := good_end hS.1
    have hxl : xs.length = (scn b).1.length := by have := congrArg List.length hS.1; rw [List.length_map, plcs_len b _ (Nat.le_refl _)] at this; exact this
    rw [hge] at hb6
    rw [hxl] at hb5 ho
    have hsz := hx.size
    have hDw : w.heap.size ≤ D := by have := hx8.size; omega
    have HP : Hid (∀ w2, Ext W w2 → ScPost w b (.returned (.tuple #[.slice B (scn b).1.length d, .int .i64 ((scn b).2.1 : Nat), .int .i64 ((scn b).2.2 : Nat)])) (w2.putObj D (.deferred none))) := Lib.hid fun w2 hx2 =>
      ⟨B, d, xs.map toPl, rfl, by rw [List.map_map]; unfold plL; rw [← hS.1, List.map_map]; rfl, extP (hx.tr hx2) hDw, ownsRow_putObj (own_ext hx2 ho) _ (dfE hx2 hK) rfl, fun h hh => by
        obtain ⟨x, hx1, rfl⟩ := List.mem_map.1 hh
        exact ownsRow_putObj (own_ext hx2 (hS.2 x hx1)) _ (dfE hx2 hK) rfl⟩
    have HK := Lib.hid hK
    have hlen : b.length = m := by have := hrd.1; rw [u8s_len] at this; exact this
    have hrs := scn_rest b
    have hgl := (scn_good b).2.1
    rw [hlen] at hrs hgl
    have HX := Lib.hid hx
    clear hK hS ho hge hxl hx8 b5 b6 b7
    by_cases hE0 : (scn b).2.2 = 0
    · have hg0 := hrs.1.1 hE0
      rw [hE0, hg0, show ((0 : Nat) : Int) = 0 from rfl] at HP
      rw [hg0] at hb6
      clear hrs hgl hg0 hE0
      have c5 := hb5.cell 0
      have c6 := hb6.cell 0
      go_wp2_with fail
      go_quiet (fail)
      go_wp2_with fail
      have hx2 : Ext W (W.drewN nq) := (by repeat (first | with_reducible exact Below.refl _ _ | with_reducible assumption | with_reducible refine ExtD ?_ | with_reducible refine ExtDN ?_ | with_reducible refine ExtA ?_ | (with_reducible refine ExtR ?_ ?_; (first | omega | (dsimp only; omega) | (simp; done) | (simp; omega))) | (with_reducible refine ExtS ?_ ?_; (first | omega | (dsimp only; omega) | (simp; done) | (simp; omega))) | with_reducible refine Ext.tr ?_ (by with_reducible assumption)))
      (try simp only [Exit.inBlock, Exit.then]); refine bodyPostM_ret1 (D := D) rfl (dfE hx2 HK.out) ?_ (HP.out _ hx2); exact results_t3 rfl _ rfl rfl rfl
    · have hG : (scn b).2.1 < m := by
        rcases Nat.lt_or_ge (scn b).2.1 m with h | h
        · exact h
        · exact absurd (hrs.1.2 (by omega)) hE0
      have hde := hrs.2 hE0
      obtain ⟨A', hsl, hrd'⟩ := slice_lo A m c (scn b).2.1 (by omega) hmc
      have KD := Lib.hid fun W1 (hx1 : Ext w W1) => fdec_any A' (m - (scn b).2.1) (c - (scn b).2.1) (b.drop (scn b).2.1) W1 (hN.ext hx1) (hrd' W1 b (hrd.ext hx1)) (by omega) (by simp only [maxLen]; omega)
      obtain ⟨⟨⟨k1, s1, b1⟩, n1, E1⟩, hfd⟩ : ∃ x, x = fdec (b.drop (scn b).2.1) := ⟨_, rfl⟩
      rw [← hfd] at KD hde
      unfold DcPost frcells at KD
      dsimp only at KD hde
      rw [← hde] at HP
      have hofk : ¬ ((scn b).2.1 : Int) = (m : Int) := by omega
      have x1 : (((scn b).2.1 : Int) == (m : Int)) = false := by simp; omega
      obtain ⟨lb, hlb⟩ : ∃ lb, lb = b1.length := ⟨_, rfl⟩
      rw [← hlb] at KD
      have c5 := hb5.cell 0
      have c6 := hb6.cell 0
      clear hrs hgl hE0 hde hfd hrd' hlb
      go_wp2_with (go_at_call 130; go_loud (refine (KD.out _ HX.out).mono ?_; rintro e w1 ⟨A1, c1, rfl, hx1, ho1, -⟩; have y5 := fun o => (BlkA (o := o) (BlkE hb5 hx1)).cell 0; have y6 := fun o => (BlkA (o := o) (BlkE hb6 hx1)).cell 0; clear ho1))
      go_quiet (fail)
      go_wp2_with fail
      have hx2 : Ext W ((w1.alloc (.cells #[.int .i64 (k1 : Nat), .int .i64 (s1 : Nat), .slice A1 lb c1] 119)).drewN nq) := (by repeat (first | with_reducible exact Below.refl _ _ | with_reducible assumption | with_reducible refine ExtD ?_ | with_reducible refine ExtDN ?_ | with_reducible refine ExtA ?_ | (with_reducible refine ExtR ?_ ?_; (first | omega | (dsimp only; omega) | (simp; done) | (simp; omega))) | (with_reducible refine ExtS ?_ ?_; (first | omega | (dsimp only; omega) | (simp; done) | (simp; omega))) | with_reducible refine Ext.tr ?_ (by with_reducible assumption)))
      (try simp only [Exit.inBlock, Exit.then]); refine bodyPostM_ret1 (D := D) rfl (dfE hx2 HK.out) ?_ (HP.out _ hx2); exact results_t3 rfl _ rfl rfl rfl
end Go.Proofs.YtjajbbgebblalaaGreatDoor
