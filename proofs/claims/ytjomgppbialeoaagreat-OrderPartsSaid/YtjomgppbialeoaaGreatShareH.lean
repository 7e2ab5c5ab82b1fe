/-
  The walk of the reference's Share.
-/
import Derived.Test.YtjomgppbialeoaaGreatShareG
import Derived.Test.YtjomgppbialeoaaGreatOwn
import Derived.Test.YtjomgppbialeoaaGreatHand
import Derived.Test.YtjomgppbialeoaaGreatLongW9
import Derived.Deep.MidRow
import Derived.Deep.RegionHeld3
namespace Go.Proofs.YtjomgppbialeoaaGreat
open Go.RowKit
set_option linter.unusedVariables false
set_option linter.unusedSimpArgs false
theorem alloc_long (w : World) : (Instr.alloc 64 true (.tuple #[])).run Tryz.prog w = .ok (.pointer (some ⟨w.heap.size, 0, none⟩)) (w.alloc (.cells (arrA false fun _ => 0) 64)) := by kernel_rfl
theorem el_i64s : Elem Tryz.prog 2 (.int .i64 0) 1 8 := ⟨by kernel_rfl, rfl, by decide⟩
theorem el_long : Elem Tryz.prog 64 (.agg (arrA false fun _ => 0)) 17 136 := ⟨by kernel_rfl, rfl, by decide⟩
theorem bs_long (r : Nat) (w : World) : (Instr.buildSlice 69 1 #[(0, .agg (arrA false (dg r)))]).run Tryz.prog w = .ok (.slice (some ⟨w.heap.size, 0, none⟩) 1 1) (w.alloc (.cells (arrA false (dg r)) 64)) := by kernel_rfl
def digA (q : Nat) : Array Value := ((List.range 16).map fun j => Value.int .u64 (dg q j)).toArray
theorem dig_wide : Wide Tryz.prog 62 16 := ⟨⟨_, Tryz.underlying62, rfl⟩, by kernel_rfl⟩
theorem blk_type {w w' : World} {base s n g : Nat} {e t : TypeId} {v : Value} {xs : List Value} {cs : Array Value} (hb : Blk w g t cs) (ho : w.ownsRow base e s v n xs) (hg : w.grownBy w' v.ownBlock) (ht : t ≠ e) : Blk w' g t cs := BlkG hb hg fun hc => by
  rcases ho.2 with ⟨hv, _⟩ | ⟨g2, cap, cur, hv, _, hg2, _⟩
  · rw [hv] at hc; cases hc
  · rw [hv] at hc
    simp only [Value.ownBlock, Option.some.injEq] at hc
    subst hc
    unfold Blk at hb
    rw [hb] at hg2
    simp at hg2
    exact ht hg2.2
theorem own_off_type {w : World} {base s n g : Nat} {e t : TypeId} {v : Value} {xs : List Value} {cs : Array Value} (ho : w.ownsRow base e s v n xs) (hb : Blk w g t cs) (ht : t ≠ e) : v.ownBlock ≠ some g := fun hc => by
  rcases ho.2 with ⟨hv, _⟩ | ⟨g2, cap, cur, hv, _, hg2, _⟩
  · rw [hv] at hc; cases hc
  · rw [hv] at hc
    simp only [Value.ownBlock, Option.some.injEq] at hc
    subst hc
    unfold Blk at hb
    rw [hb] at hg2
    simp at hg2
    exact ht hg2.2
theorem own_row_off {w : World} {base s n g : Nat} {e : TypeId} {v : Value} {xs : List Value} {ds : Array Value} (hne : v.ownBlock ≠ some g) (h : w.ownsRow base e s v n xs) : (w.setRow g ds).ownsRow base e s v n xs := own_heap h fun k hk => by
  simp only [World.setRow, Array.getElem?_modify]
  rw [if_neg (fun hc => hne (by rw [hk, hc]))]
theorem rdL_new (w : World) (r : Nat) : RdN (w.alloc (.cells (arrA false (dg r)) 64)) 17 (some ⟨w.heap.size, 0, none⟩) 1 (arrA false (dg r)).toList := by
  have h := rd_new w (arrA false (dg r)) 64
  exact ⟨by rw [Array.length_toList, arr_size], fun _ => h.2 (by rw [arr_size]; decide)⟩
theorem wpL_load_dig {w : World} {ops : Array Oper} {rest : List Oper} {op : Oper} {a : Act} {Q : Exit → Act → World → Prop} (hgd : op.guard = none) (x : Operand) (ho : op.op = .load 62 x)
    (g : Nat) (hx : a.eval x = .pointer (some ⟨g, 1, none⟩)) (q : Nat) (b : Bool) (hb : Blk w g 64 (arrA b (dg q)))
    (h : wpList Tryz.prog ops Q rest (a.put op.dst (.agg #[.int .u64 (dg q 0 : Nat), .int .u64 (dg q 1 : Nat), .int .u64 (dg q 2 : Nat), .int .u64 (dg q 3 : Nat), .int .u64 (dg q 4 : Nat), .int .u64 (dg q 5 : Nat), .int .u64 (dg q 6 : Nat), .int .u64 (dg q 7 : Nat), .int .u64 (dg q 8 : Nat), .int .u64 (dg q 9 : Nat), .int .u64 (dg q 10 : Nat), .int .u64 (dg q 11 : Nat), .int .u64 (dg q 12 : Nat), .int .u64 (dg q 13 : Nat), .int .u64 (dg q 14 : Nat), .int .u64 (dg q 15 : Nat)])) w) : wpList Tryz.prog ops Q (op :: rest) a w := by
  obtain ⟨⟨d, hu, hd⟩, hi⟩ := dig_wide
  refine wpList_load_mid hgd 62 x ho g 1 hx (digA q).toList d (fun j v hv => ?_) hu (by revert hd; cases d <;> simp [TypeDesc.isRow]) (by rw [Array.length_toList]; simpa [digA] using hi) h
  have hj : j < 16 := by
    have := (List.getElem?_eq_some_iff.1 hv).1
    simpa [digA] using this
  rw [hb.cell, arr_get _ _ _ hj]
  rw [← hv]
  simp [digA, hj]
def ldR (n : Nat) (f : Nat → Nat) : List Value := ((List.range n).map fun i => (arrA false (dg (f i))).toList).flatten
theorem ldR_snoc (n : Nat) (f : Nat → Nat) : ldR (n + 1) f = ldR n f ++ (arrA false (dg (f n))).toList := by simp [ldR, List.range_succ]
theorem inR_snoc (n : Nat) (f : Nat → Nat) : ints ((List.range (n + 1)).map fun i => (f i : Int)) = ints ((List.range n).map fun i => (f i : Int)) ++ [.int .i64 (f n : Nat)] := by simp [ints, List.range_succ]
def ShS2 (w : World) (base g7 g12 n T : Nat) (l : List Int) (S : Nat) (q r i : Value) (wr : World) : Prop :=
  ∃ k : Nat, k ≤ n ∧ i = .int .i64 k ∧ Ext w wr ∧ base ≤ wr.heap.size ∧ wr.ownsRow base 2 1 q k (ints ((List.range k).map fun i => (shQ T l i : Int))) ∧ wr.ownsRow base 64 17 r k (ldR k (shR T l)) ∧
    q.ownBlock ≠ some g12 ∧ r.ownBlock ≠ some g12 ∧ Blk wr g12 64 (arrA false (dg (shL T l k))) ∧ Blk wr g7 64 (arrA false (dg S))
def ShS3 (W : World) (n T : Nat) (l : List Int) (o i : Value) (wr : World) : Prop :=
  ∃ m : Nat, m ≤ n ∧ i = .int .i64 (m : Nat) ∧ Ext W wr ∧ wr.ownsRow W.heap.size 2 1 o m (ints ((List.range m).map fun i => (shareN T l i : Int)))
def ShS4 (W : World) (n T : Nat) (l : List Int) (m : Nat) (a i : Value) (wr : World) : Prop :=
  ∃ p : Nat, p ≤ n ∧ i = .int .i64 (p : Nat) ∧ a = .int .i64 (sumF (fun x => (bef (shR T l) x m).toNat) p : Nat) ∧ Ext W wr
theorem ldR_len (n : Nat) (f : Nat → Nat) : (ldR n f).length = n * 17 := by
  induction n with
  | zero => rfl
  | succ n ih => rw [ldR_snoc, List.length_append, ih, Array.length_toList, arr_size]; omega
theorem ldR_get (n : Nat) (f : Nat → Nat) {k i : Nat} (hk : k < n) (hi : i < 17) : (ldR n f)[k * 17 + i]? = (arrA false (dg (f k))).toList[i]? := by
  induction n with
  | zero => omega
  | succ n ih =>
    rw [ldR_snoc]
    by_cases h : k < n
    · rw [List.getElem?_append_left (by rw [ldR_len]; omega)]
      exact ih h
    · obtain rfl : k = n := by omega
      rw [List.getElem?_append_right (by rw [ldR_len]; omega), ldR_len]
      congr 1; omega
theorem ldR_at {w : World} {A : Option Addr} {n : Nat} {f : Nat → Nat} (h : RdN w 17 A n (ldR n f)) (h0 : 0 < n) : ∃ b o, A = some ⟨b, o, none⟩ ∧ ∀ k, k < n → w.rangeAt b (o + k * 17) (arrA false (dg (f k))).toList := by
  obtain ⟨b, o, e, hc⟩ := h.2 h0
  refine ⟨b, o, e, fun k hk j v hv => ?_⟩
  have hj : j < 17 := by
    have := (List.getElem?_eq_some_iff.1 hv).1
    simpa [arr_size] using this
  rw [Nat.add_assoc]
  exact hc _ _ (by rw [ldR_get n f hk hj]; exact hv)
theorem bef_le (r : Nat → Nat) (m : Nat) : ∀ p, sumF (fun x => (bef r x m).toNat) p ≤ p
  | 0 => Nat.le_refl _
  | p + 1 => by
    have h := bef_le r m p
    show sumF (fun x => (bef r x m).toNat) p + (bef r p m).toNat ≤ p + 1
    cases bef r p m <;> simp <;> omega
theorem bef_cmp (r : Nat → Nat) (p m : Nat) : (cmpI (r p) (r m) = 1 ∧ bef r p m = true) ∨ (cmpI (r p) (r m) = 0 ∧ bef r p m = decide (p < m)) ∨ (cmpI (r p) (r m) = -1 ∧ bef r p m = false) := by
  unfold bef
  rcases Nat.lt_trichotomy (r p) (r m) with h | h | h
  · refine .inr (.inr ⟨cmpI_lt h, ?_⟩)
    rw [decide_eq_false (by omega), decide_eq_false (by omega)]; rfl
  · refine .inr (.inl ⟨cmpI_eq h, ?_⟩)
    rw [decide_eq_false (by omega), decide_eq_true (by omega)]; simp
  · refine .inl ⟨cmpI_gt h, ?_⟩
    rw [decide_eq_true (by omega)]; rfl
theorem lad19 {G : Prop} {Fa : World → Nat → Prop} {Fc : World → Nat → Nat → Prop} {Pa0 Pb0 : World → Nat → Prop} {Pc0 : World → Nat → Nat → Prop} {Pa1 Pb1 : World → Nat → Prop} {Pc1 : World → Nat → Nat → Prop} {Pa2 Pb2 : World → Nat → Prop} {Pc2 : World → Nat → Nat → Prop} {Pa3 Pb3 : World → Nat → Prop} {Pc3 : World → Nat → Nat → Prop} {Pa4 Pb4 : World → Nat → Prop} {Pc4 : World → Nat → Nat → Prop}
    (main : (∀ w g, Fa w g → Pa0 w g) → (∀ w g, Fa w g → Pb0 w g) → (∀ w g, Fa w g → Pa1 w g) → (∀ w g, Fa w g → Pb1 w g) → (∀ w g, Fa w g → Pa2 w g) → (∀ w g, Fa w g → Pb2 w g) → (∀ w g, Fa w g → Pa3 w g) → (∀ w g, Fa w g → Pb3 w g) → (∀ w g, Fa w g → Pa4 w g) → (∀ w g, Fa w g → Pb4 w g) → G)
    (pa4 : (∀ w g h, Fc w g h → Pc4 w g h) → (∀ w g, Fa w g → Pa4 w g))
    (pb4 : (∀ w g h, Fc w g h → Pc4 w g h) → (∀ w g, Fa w g → Pb4 w g))
    (pa3 : (∀ w g, Fa w g → Pa4 w g) → (∀ w g h, Fc w g h → Pc3 w g h) → (∀ w g, Fa w g → Pa3 w g))
    (pb3 : (∀ w g, Fa w g → Pb4 w g) → (∀ w g h, Fc w g h → Pc3 w g h) → (∀ w g, Fa w g → Pb3 w g))
    (pa2 : (∀ w g, Fa w g → Pa3 w g) → (∀ w g h, Fc w g h → Pc2 w g h) → (∀ w g, Fa w g → Pa2 w g))
    (pb2 : (∀ w g, Fa w g → Pb3 w g) → (∀ w g h, Fc w g h → Pc2 w g h) → (∀ w g, Fa w g → Pb2 w g))
    (pa1 : (∀ w g, Fa w g → Pa2 w g) → (∀ w g h, Fc w g h → Pc1 w g h) → (∀ w g, Fa w g → Pa1 w g))
    (pb1 : (∀ w g, Fa w g → Pb2 w g) → (∀ w g h, Fc w g h → Pc1 w g h) → (∀ w g, Fa w g → Pb1 w g))
    (pa0 : (∀ w g, Fa w g → Pa1 w g) → (∀ w g h, Fc w g h → Pc0 w g h) → (∀ w g, Fa w g → Pa0 w g))
    (pb0 : (∀ w g, Fa w g → Pb1 w g) → (∀ w g h, Fc w g h → Pc0 w g h) → (∀ w g, Fa w g → Pb0 w g))
    (pc4 : (∀ w g h, Fc w g h → Pc4 w g h))
    (pc3 : (∀ w g h, Fc w g h → Pc4 w g h) → (∀ w g h, Fc w g h → Pc3 w g h))
    (pc2 : (∀ w g h, Fc w g h → Pc3 w g h) → (∀ w g h, Fc w g h → Pc2 w g h))
    (pc1 : (∀ w g h, Fc w g h → Pc2 w g h) → (∀ w g h, Fc w g h → Pc1 w g h))
    (pc0 : (∀ w g h, Fc w g h → Pc1 w g h) → (∀ w g h, Fc w g h → Pc0 w g h))
    : G :=
  have c4 := pc4
  have c3 := pc3 c4
  have c2 := pc2 c3
  have c1 := pc1 c2
  have c0 := pc0 c1
  have a4 := pa4 c4
  have b4 := pb4 c4
  have a3 := pa3 a4 c3
  have b3 := pb3 b4 c3
  have a2 := pa2 a3 c2
  have b2 := pb2 b3 c2
  have a1 := pa1 a2 c1
  have b1 := pb1 b2 c1
  have a0 := pa0 a1 c0
  have b0 := pb0 b1 c0
  main a0 b0 a1 b1 a2 b2 a3 b3 a4 b4
def CutQ (wr : World) (Q R : Nat) (v14 v15 : Value) (wc : World) : Prop :=
  ∃ g h : Nat, v14 = .pointer (some ⟨g, 0, none⟩) ∧ v15 = .pointer (some ⟨h, 0, none⟩) ∧ wr.heap.size ≤ g ∧ wr.heap.size ≤ h ∧ Ext wr wc ∧ Blk wc g 64 (arrA false (dg Q)) ∧ Blk wc h 64 (arrA false (dg R))
theorem own_low {w : World} {base base' s n : Nat} {e : TypeId} {v : Value} {xs : List Value} (h : w.ownsRow base e s v n xs) (hb : base' ≤ base) : w.ownsRow base' e s v n xs :=
  ⟨h.1, h.2.imp id fun ⟨g, cap, cur, a, b, c⟩ => ⟨g, cap, cur, a, Nat.le_trans hb b, c⟩⟩
def RefPost (w : World) (t : Int) (l : List Int) (n : Nat) (e : Ending) (w' : World) : Prop :=
  Ext w w' ∧ (¬ shOk t l → e = BAD) ∧ (shOk t l → ∃ A c, e = .returned (.tuple #[.slice A n c, .bool true]) ∧ w'.ownsRow w.heap.size 2 1 (.slice A n c) n (ints (shList t.toNat l)))
theorem ref_bad {w w' : World} {t : Int} {l : List Int} {n : Nat} {e : Ending} (hx : Ext w w') (h : ¬ shOk t l) (he : e = BAD) : RefPost w t l n e w' := ⟨hx, fun _ => he, fun k => absurd k h⟩
theorem sumL_ok (t : Int) (l : List Int) (hl : I64 l) (h : shOk t l) : (sumL l).1 = false ∧ (sumL l).2 = shS l := by
  obtain ⟨h1, h2, _⟩ := ok_sum t l hl h
  have h3 := sumL_sg l
  rw [shS_sum l h.2.2.1] at h3
  unfold sg at h3
  cases hb : (sumL l).1
  · rw [hb] at h3; simp at h3; exact ⟨rfl, by omega⟩
  · rw [hb] at h3; simp at h3; omega
theorem sumL_zero (l : List Int) (hn : l.length ≤ 9223372036854775807) (hl : I64 l) (hf : sumFits l = true) : decide ((sumL l).2 = 0) = decide (sumOf l = 0) := by
  have h1 := sumOf_eq l hl hn
  have h2 := sumFits_eq l hl hn
  have h3 := sumL_sg l
  rw [hf] at h2
  have h4 : sumOf l = l.sum := by rw [h1]; unfold nf; rw [← h2]; rfl
  rw [h4, ← h3]
  unfold sg
  cases (sumL l).1 <;> simp
set_option maxRecDepth 100000 in
set_option maxHeartbeats 40000000 in
theorem refshare_any (t : Int) (A : Option Addr) (n c : Nat) (l : List Int) (w : World) (ht0 : -9223372036854775808 ≤ t) (ht1 : t ≤ 9223372036854775807) (hr : Rd w A n (ints l)) (hl : I64 l) (hb : n ≤ maxLen) :
    Calls Tryz.prog 15 #[.int .i64 t, .slice A n c] w fun e w' => RefPost w t l n e w' := by
  unfold maxLen at hb
  have hlen : l.length = n := by have := hr.1; simpa [ints] using this
  by_cases hneg : t < 0
  · have Hno := Lib.hid (show ¬ shOk t l from fun h => absurd h.1 (by omega))
    have d1 : decide (t < 0) = true := by simpa using hneg
    clear hlen
    go_enter Tryz.func15, Tryz.ntmps15
    go_wp2_with fail
    go_ret2
    exact ref_bad (by repeat (first | with_reducible exact Below.refl _ _ | with_reducible assumption | with_reducible refine ExtD ?_ | with_reducible refine ExtDN ?_ | with_reducible refine ExtA ?_ | (with_reducible refine ExtR ?_ ?_; (first | omega | (dsimp only; omega) | (simp; done) | (simp; omega))) | (with_reducible refine ExtS ?_ ?_; (first | omega | (dsimp only; omega) | (simp; done) | (simp; omega))) | with_reducible refine Ext.tr ?_ (by with_reducible assumption))) Hno.out rfl
  by_cases hn : 64 < n
  · have Hno := Lib.hid (show ¬ shOk t l from fun h => absurd h.2.1 (by omega))
    have d1 : decide (t < 0) = false := by simpa using hneg
    have d2 : decide ((64 : Int) < (n : Int)) = true := by simp; omega
    clear hlen
    go_enter Tryz.func15, Tryz.ntmps15
    go_wp2_with fail
    go_ret2
    exact ref_bad (by repeat (first | with_reducible exact Below.refl _ _ | with_reducible assumption | with_reducible refine ExtD ?_ | with_reducible refine ExtDN ?_ | with_reducible refine ExtA ?_ | (with_reducible refine ExtR ?_ ?_; (first | omega | (dsimp only; omega) | (simp; done) | (simp; omega))) | (with_reducible refine ExtS ?_ ?_; (first | omega | (dsimp only; omega) | (simp; done) | (simp; omega))) | with_reducible refine Ext.tr ?_ (by with_reducible assumption))) Hno.out rfl
  have d1 : decide (t < 0) = false := by simpa using hneg
  have d2 : decide ((64 : Int) < (n : Int)) = false := by simp; omega
  have Hlen := Lib.hid hlen
  have Hn := Lib.hid hn
  clear hlen hn
  go_enter Tryz.func15, Tryz.ntmps15
  go_wp2_with fail
  go_loopw [35] (fun i wr => ShR1 w n l i wr) (fun i _ => n - (intOf i).toNat)
  case atStart => exact ⟨0, by omega, rfl, fun j h => by omega, rfl⟩
  case round =>
    obtain ⟨k, hk, rfl, hnn, rfl⟩ := hrel
    have Hnn := Lib.hid hnn
    clear hnn
    by_cases hlt : k < n
    · obtain ⟨b, o, rfl, hc1⟩ := at_ints hr hlt
      obtain ⟨x, hx1⟩ : ∃ x, x = l.getD k 0 := ⟨_, rfl⟩
      rw [← hx1] at hc1
      have HX := Lib.hid hx1
      clear hx1
      by_cases hxn : x < 0
      · have d3 : decide (x < 0) = true := by simpa using hxn
        have Hno := Lib.hid (show ¬ shOk t l from fun h => by
          have h2 := h.2.2.1 (l[k]'(by have := Hlen.out; omega)) (List.getElem_mem _)
          have h3 := HX.out
          rw [List.getD_eq_getElem?_getD, List.getElem?_eq_getElem (by have := Hlen.out; omega)] at h3
          simp at h3
          omega)
        go_wp2_with fail
        go_ret2
        exact ref_bad (by repeat (first | with_reducible exact Below.refl _ _ | with_reducible assumption | with_reducible refine ExtD ?_ | with_reducible refine ExtDN ?_ | with_reducible refine ExtA ?_ | (with_reducible refine ExtR ?_ ?_; (first | omega | (dsimp only; omega) | (simp; done) | (simp; omega))) | (with_reducible refine ExtS ?_ ?_; (first | omega | (dsimp only; omega) | (simp; done) | (simp; omega))) | with_reducible refine Ext.tr ?_ (by with_reducible assumption))) Hno.out rfl
      · have d3 : decide (x < 0) = false := by simpa using hxn
        go_wp2_with fail
        go_roundw
        case rel => exact ⟨k + 1, by omega, by go_num, fun j hj => by
          by_cases h : j = k
          · subst h; have := HX.out; rw [List.getD_eq_getElem?_getD] at this; omega
          · exact Hnn.out j (by omega), rfl⟩
        case measure => simp [intOf]; omega
    · have hkn : k = n := by omega
      subst hkn
      have hall : NonNeg l := fun v hv => by
        obtain ⟨j, hj, rfl⟩ := List.mem_iff_getElem.1 hv
        have := Hnn.out j (by have := Hlen.out; omega)
        rw [List.getElem?_eq_getElem hj] at this
        simpa using this
      have Hall := Lib.hid hall
      have hm16 : (sumL l).2 < 65536 ^ 16 := big16 _ (Nat.le_trans (sumL_le l hl) (by have := Hlen.out; omega))
      have v1 := sumOf_eq l hl (by have := Hlen.out; omega)
      have v2 := sumFits_eq l hl (by have := Hlen.out; omega)
      have v3 := sumL_sg l
      rw [← v3] at v1 v2
      have M16 := Lib.hid hm16
      have V1 := Lib.hid v1
      have V2 := Lib.hid v2
      have hF : ∀ w : World, Calls Tryz.prog 31 #[longV (sumL l).1 (sumL l).2] w fun e w' => e = .returned (.tuple #[.int .i64 (sumOf l), .bool (sumFits l)]) ∧ Ext w w' := fun w => by
        rw [v1, v2]; exact fits_any _ _ w hm16
      have HF := Lib.hid hF
      have z2 := arr_zero false
      clear hall hlt hm16 v1 v2 v3 hF
      by_cases hsf : sumFits l = true
      · have hz := sumL_zero l (by have := Hlen.out; omega) hl hsf
        by_cases hs0 : sumOf l = 0
        · have Hno := Lib.hid (show ¬ shOk t l from fun h => h.2.2.2.2 hs0)
          have tz : decide ((sumL l).2 = 0) = true := by rw [hz]; simpa using hs0
          clear hz hs0
          go_wp2_with (first
            | (go_at_call 30; go_must (with_reducible refine (sum_long A k c l _ hr hl (by simp only [maxLen]; omega)).mono ?_); rintro e w1 ⟨rfl, hx1⟩)
            | (with_reducible refine wpL_store_new rfl 64 (.tmp 7) (.tmp 45) rfl w1.heap.size 64 (arrA false fun _ => 0) (arrA (sumL l).1 (dg (sumL l).2)) rfl rfl (by simp) (by rw [arr_size, arr_size]) (arr_one _ _) 17 long_wide (arr_size _ _) ?_)
            | (with_reducible refine wpL_load_row rfl 64 (.tmp 7) rfl _ 64 (arrA (sumL l).1 (dg (sumL l).2)) 17 rfl (BlkN rfl) long_wide (arr_size _ _) ?_)
            | (go_at_call 31; go_must (with_reducible refine (HF.out _).mono ?_); rintro e w2 ⟨rfl, hx2⟩)
            | (with_reducible refine wpL_load_row_w rfl 64 (.tmp 7) rfl _ 64 (arrA (sumL l).1 (dg (sumL l).2)) 17 rfl (hx2.blk (BlkN rfl)) long_wide (arr_size _ _) ?_)
            | (go_at_call 32; go_must (with_reducible refine (zero_any _ _ _ M16.out).mono ?_); rintro e w3 ⟨rfl, hx3⟩))
          go_ret2
          exact ref_bad (by repeat (first | with_reducible exact Below.refl _ _ | with_reducible assumption | with_reducible refine ExtD ?_ | with_reducible refine ExtDN ?_ | with_reducible refine ExtA ?_ | (with_reducible refine ExtR ?_ ?_; (first | omega | (dsimp only; omega) | (simp; done) | (simp; omega))) | (with_reducible refine ExtS ?_ ?_; (first | omega | (dsimp only; omega) | (simp; done) | (simp; omega))) | with_reducible refine Ext.tr ?_ (by with_reducible assumption))) Hno.out rfl
        · have Hok : Hid (shOk t l) := Lib.hid ⟨by omega, by have := Hlen.out; have := Hn.out; omega, Hall.out, hsf, hs0⟩
          obtain ⟨T, HT⟩ : ∃ T : Nat, Hid (t = (T : Int)) := ⟨t.toNat, Lib.hid (by have := Hok.out.1; omega)⟩
          obtain ⟨hs1, hs2, hs3⟩ := ok_sum t l hl Hok.out
          obtain ⟨hL1, hL2⟩ := sumL_ok t l hl Hok.out
          obtain ⟨S, HS⟩ : ∃ S : Nat, Hid (S = shS l) := ⟨_, rfl⟩
          rw [← HS.out] at hs1 hs2 hs3 hL2
          have hT : T < 9223372036854775808 := by have := HT.out; omega
          have hk64 : k ≤ 64 := by have := Hn.out; omega
          have hsum := sum_long A k c l w hr hl (by simp only [maxLen]; omega)
          have hF := HF.out
          rw [hL1, hL2] at hsum hF
          rw [hs1, hsf] at hF
          have e0 : t = (T : Int) := HT.out
          subst e0
          have hOT : ∀ w : World, Calls Tryz.prog 33 #[.int .i64 (T : Int)] w fun e w' => e = .returned (longV false T) ∧ Ext w w' := fun w => by
            have := of_any (T : Int) w ht0 ht1
            rw [show decide ((T : Int) < 0) = false by simp, show absN (T : Int) = T by simp [absN]] at this
            exact this
          have HOT := Lib.hid hOT
          have Hsum := Lib.hid hsum
          have HFF := Lib.hid hF
          have hS16 : S < 65536 ^ 16 := big16 _ (by omega)
          have HS16 := Lib.hid hS16
          have HS2 := Lib.hid hs2
          have HS3 := Lib.hid hs3
          have tz : decide (S = 0) = false := by simp; omega
          clear hs0 hsum hneg d1 d2 hsf hz hs1 hs2 hs3 hL1 hL2 hF hOT hS16 M16 V1 V2 HF
          have Hr := Lib.hid hr
          go_wp2_with (first
            | (go_at_call 30; go_must (with_reducible refine (Hsum.out).mono ?_); rintro e w1 ⟨rfl, hx1⟩)
            | (with_reducible refine wpL_store_new rfl 64 (.tmp 7) (.tmp 45) rfl w1.heap.size 64 (arrA false fun _ => 0) (arrA false (dg S)) rfl rfl (by simp) (by rw [arr_size, arr_size]) (arr_one _ _) 17 long_wide (arr_size _ _) ?_)
            | (with_reducible refine wpL_load_row rfl 64 (.tmp 7) rfl _ 64 (arrA false (dg S)) 17 rfl (BlkN rfl) long_wide (arr_size _ _) ?_)
            | (go_at_call 31; go_must (with_reducible refine (HFF.out _).mono ?_); rintro e w2 ⟨rfl, hx2⟩)
            | (with_reducible refine wpL_load_row_w rfl 64 (.tmp 7) rfl _ 64 (arrA false (dg S)) 17 rfl (hx2.blk (BlkN rfl)) long_wide (arr_size _ _) ?_)
            | (go_at_call 32; go_must (with_reducible refine (zero_any _ _ _ HS16.out).mono ?_); rintro e w3 ⟨rfl, hx3⟩)
            | (go_at_call 33; go_must (with_reducible refine (HOT.out _).mono ?_); rintro e w4 ⟨rfl, hx4⟩)
            | (with_reducible refine wpL_store_new rfl 64 (.tmp 12) (.tmp 60) rfl w4.heap.size 64 (arrA false fun _ => 0) (arrA false (dg T)) rfl rfl (by simp) (by rw [arr_size, arr_size]) (arr_one _ _) 17 long_wide (arr_size _ _) ?_))
          have hx12 := (hx1.tr ((ExtA (Ext.rfl' w1)).tr (hx2.tr hx3)))
          have q3 : w.heap.size ≤ w3.heap.size := hx12.size
          have q4 : w3.heap.size + 1 + 1 ≤ w4.heap.size := by have := hx4.size; simpa using this
          have q7 : w1.heap.size < w3.heap.size := by have := (hx2.tr hx3).size; simp at this; omega
          obtain ⟨W5, HW5⟩ : ∃ W, Hid (W = w4.alloc (.cells (arrA false (dg T)) 64)) := ⟨_, rfl⟩
          have hx5 : Ext w4 W5 := by rw [HW5.out]; exact (by repeat (first | with_reducible exact Below.refl _ _ | with_reducible assumption | with_reducible refine ExtD ?_ | with_reducible refine ExtDN ?_ | with_reducible refine ExtA ?_ | (with_reducible refine ExtR ?_ ?_; (first | omega | (dsimp only; omega) | (simp; done) | (simp; omega))) | (with_reducible refine ExtS ?_ ?_; (first | omega | (dsimp only; omega) | (simp; done) | (simp; omega))) | with_reducible refine Ext.tr ?_ (by with_reducible assumption)))
          have b12 : Blk W5 w4.heap.size 64 (arrA false (dg T)) := by rw [HW5.out]; exact BlkN rfl
          rw [← HW5.out]
          have o1 := own_ext (hx4.tr hx5) (World.ownsRow.alloc (own_new (s := 1) w3 w3.heap.size #[] 2 0 (Nat.le_refl _) (by decide) rfl) (.cells #[] 64))
          have o2 := own_ext (hx4.tr hx5) (own_new (s := 17) (w3.alloc (.cells #[] 2)) w3.heap.size #[] 64 0 (by simp) (by decide) rfl)
          have b7 : Blk W5 w1.heap.size 64 (arrA false (dg S)) := (hx4.tr hx5).blk (BlkA (BlkA ((hx2.tr hx3).blk (BlkN rfl))))
          have hx0 : Ext w W5 := (hx12.tr ((ExtA (ExtA (Ext.rfl' w3))).tr (hx4.tr hx5)))
          have q5 : w4.heap.size ≤ W5.heap.size := hx5.size
          obtain ⟨base, Hbase⟩ : ∃ base, Hid (base = w3.heap.size) := ⟨_, rfl⟩
          obtain ⟨g7, Hg7⟩ : ∃ g7, Hid (g7 = w1.heap.size) := ⟨_, rfl⟩
          obtain ⟨g12, Hg12⟩ : ∃ g12, Hid (g12 = w4.heap.size) := ⟨_, rfl⟩
          have n1 : Value.ownBlock (.slice (some ⟨w3.heap.size, 0, none⟩) 0 0) ≠ some g12 := by simp [Value.ownBlock]; have := Hg12.out; omega
          have n2 : Value.ownBlock (.slice (some ⟨(w3.alloc (.cells #[] 2)).heap.size, 0, none⟩) 0 0) ≠ some g12 := by simp [Value.ownBlock]; have := Hg12.out; omega
          rw [show (w3.alloc (.cells #[] 2)).heap.size = w3.heap.size + 1 by simp] at o2 n2
          rw [← Hbase.out] at o1 o2 n1 n2 q3 q4 q7
          rw [← Hg7.out] at b7 q7
          rw [← Hg12.out] at b12 q4 q5
          rw [← Hbase.out, ← Hg7.out, ← Hg12.out]
          clear HW5 hx1 hx2 hx3 hx4 hx5 hx12
          go_loopw [10, 11, 63] (fun q r i wr => ShS2 w base g7 g12 k T l S q r i wr) (fun _ _ i _ => k - (intOf i).toNat)
          case atStart => exact ⟨0, by omega, rfl, (by repeat (first | with_reducible exact Below.refl _ _ | with_reducible assumption | with_reducible refine ExtD ?_ | with_reducible refine ExtDN ?_ | with_reducible refine ExtA ?_ | (with_reducible refine ExtR ?_ ?_; (first | omega | (dsimp only; omega) | (simp; done) | (simp; omega))) | (with_reducible refine ExtS ?_ ?_; (first | omega | (dsimp only; omega) | (simp; done) | (simp; omega))) | with_reducible refine Ext.tr ?_ (by with_reducible assumption))), by omega, o1, o2, n1, n2, by simpa [shL, sumF] using b12, b7⟩
          case round =>
            obtain ⟨j, hj, rfl, hx, hbase, oq, or, nq, nr, c12, c7⟩ := hrel
            by_cases hlt : j < k
            · obtain ⟨B, O, rfl, hc1⟩ := at_ints (Hr.out.ext hx) hlt
              obtain ⟨x, Hx⟩ : ∃ x : Nat, Hid (x = wt l j) := ⟨_, rfl⟩
              have hxe : l.getD j 0 = (x : Int) := by
                have h1 := Hnn.out j hlt
                rw [Hx.out]; unfold wt; rw [List.getD_eq_getElem?_getD]; omega
              rw [hxe] at hc1
              have hx63 : x < 9223372036854775808 := by rw [Hx.out]; exact wt_lt l j hl
              obtain ⟨q, Hq⟩ : ∃ q, Hid (q = T * x / S) := ⟨_, rfl⟩
              obtain ⟨r, Hr2⟩ : ∃ r, Hid (r = T * x % S) := ⟨_, rfl⟩
              have hOX : ∀ w : World, Calls Tryz.prog 33 #[.int .i64 (x : Int)] w fun e w' => e = .returned (longV false x) ∧ Ext w w' := fun w => by
                have := of_any (x : Int) w (by omega) (by omega)
                rw [show decide ((x : Int) < 0) = false by simp, show absN (x : Int) = x by simp [absN]] at this
                exact this
              have hTM : ∀ w : World, Calls Tryz.prog 35 #[longV false T, longV false x] w fun e w' => e = .returned (longV false (T * x)) ∧ Ext w w' := fun w => times_any false false T x w (big8 _ (by omega)) (big8 _ (by omega))
              have hOV : ∀ w : World, Calls Tryz.prog 34 #[longV false (T * x), longV false S] w fun e w' => e = .returned (.tuple #[longV false q, longV false r]) ∧ Ext w w' := fun w => by
                rw [Hq.out, Hr2.out]
                exact over_any false false (T * x) S w (p256 _ (prod_lt _ _ (by omega) (by omega))) HS2.out (n128 _ (by have := HS3.out; omega))
              have HOX := Lib.hid hOX
              have HTM := Lib.hid hTM
              have HOV := Lib.hid hOV
              clear hxe hOX hTM hOV
              go_upto_region 19 with fail
              go_cut [14, 15] (fun v14 v15 wc => CutQ wr q r v14 v15 wc)
              case first =>
                refine wp_region_held_drew (S := fun w' => Ext wr w') (by kernel_rfl) (ExtD (Ext.rfl' _)) (fun hS => ?_)
                refine takeD (some 67) (i := 0) (oi := ⟨some 67, _, _, _, _, _⟩) (v := (.int .i64 (T : Int))) rfl rfl (by kernel_rfl) (by kernel_rfl) (by kernel_rfl) (fun _ _ _ h => h) (Or.inl ⟨by rfl, fun w hw => by go_simp⟩) hS ?_
                (try simp only [Act.put, List.setIfInBounds_toArray, List.set_cons_zero, List.set_cons_succ])
                refine takeD (some 69) (i := 2) (oi := ⟨some 69, _, _, _, _, _⟩) (v := (.slice (some ⟨B, O, none⟩) k c)) rfl rfl (by kernel_rfl) (by kernel_rfl) (by kernel_rfl) (fun _ _ _ h => h) (Or.inl ⟨by rfl, fun w hw => by go_simp⟩) hS ?_
                (try simp only [Act.put, List.setIfInBounds_toArray, List.set_cons_zero, List.set_cons_succ])
                refine takeD (some 70) (i := 3) (oi := ⟨some 70, _, _, _, _, _⟩) (v := (.int .i64 (j : Int))) rfl rfl (by kernel_rfl) (by kernel_rfl) (by kernel_rfl) (fun _ _ _ h => h) (Or.inl ⟨by rfl, fun w hw => by go_simp⟩) hS ?_
                (try simp only [Act.put, List.setIfInBounds_toArray, List.set_cons_zero, List.set_cons_succ])
                refine takeD (some 71) (i := 4) (oi := ⟨some 71, _, _, _, _, _⟩) (v := (.pointer (some ⟨B, O + j, none⟩))) rfl rfl (by kernel_rfl) (by kernel_rfl) (by kernel_rfl) (fun _ _ _ h => h) (Or.inl ⟨by rfl, fun w hw => by go_simp⟩) hS ?_
                (try simp only [Act.put, List.setIfInBounds_toArray, List.set_cons_zero, List.set_cons_succ])
                refine takeD (some 72) (i := 5) (oi := ⟨some 72, _, _, _, _, _⟩) (v := .int .i64 (x : Int)) rfl rfl (by kernel_rfl) (by kernel_rfl) (by kernel_rfl) (fun _ _ _ h => h) (Or.inl ⟨by rfl, fun w hw => by have hc := Ext.cell hw hc1; go_simp⟩) hS ?_
                (try simp only [Act.put, List.setIfInBounds_toArray, List.set_cons_zero, List.set_cons_succ])
                refine takeD (some 75) (i := 8) (oi := ⟨some 75, _, _, _, _, _⟩) (v := .agg (arrA false (dg S))) rfl rfl (by kernel_rfl) (by kernel_rfl) (by kernel_rfl) (fun _ _ _ h => h) (yields_row (by kernel_rfl) 64 (.tmp 7) rfl g7 64 (arrA false (dg S)) 17 rfl (fun w hw => Ext.blk hw c7) long_wide (arr_size _ _)) hS ?_
                (try simp only [Act.put, List.setIfInBounds_toArray, List.set_cons_zero, List.set_cons_succ])
                refine' lad19 (Fa := (fun w' g => Ext wr w' ∧ wr.heap.size ≤ g ∧ Blk w' g 64 (arrA false fun _ => 0))) (Fc := (fun w' g h => Ext wr w' ∧ (wr.heap.size ≤ g ∧ Blk w' g 64 (arrA false fun _ => 0)) ∧ (wr.heap.size ≤ h ∧ Blk w' h 64 (arrA false fun _ => 0)) ∧ g ≠ h)) ?_ ?_ ?_ ?_ ?_ ?_ ?_ ?_ ?_ ?_ ?_ ?_ ?_ ?_ ?_ ?_
                rotate_left 15
                · intro a0 b0 a1 b1 a2 b2 a3 b3 a4 b4
                  refine wpAnyH_ready (rs := [1, 13, 14]) (by kernel_rfl) (by simp) (AllReadyH.cons (o := ⟨some 68, _, _, _, _, _⟩) rfl (fun K hK => ?_) (AllReadyH.cons (o := ⟨some 14, _, _, _, _, _⟩) rfl (fun K hK => ?_) (AllReadyH.cons (o := ⟨some 15, _, _, _, _, _⟩) rfl (fun K hK => ?_) AllReadyH.nil)))
                  rotate_left 1
                  · (refine step_alloc rfl (some 14) rfl 64 rfl _ alloc_long ?_; intro g14 w' hg hx bn; have hgn := Nat.le_trans (Below.size hS) hg; refine hK.out _ _ (Ext.tr hS hx) ?_; intro hS; (try simp only [Act.put, List.setIfInBounds_toArray, List.set_cons_zero, List.set_cons_succ]); exact a0 _ _ ⟨hS, hgn, bn⟩)
                  · (refine step_alloc rfl (some 15) rfl 64 rfl _ alloc_long ?_; intro g15 w' hg hx bn; have hgn := Nat.le_trans (Below.size hS) hg; refine hK.out _ _ (Ext.tr hS hx) ?_; intro hS; (try simp only [Act.put, List.setIfInBounds_toArray, List.set_cons_zero, List.set_cons_succ]); exact b0 _ _ ⟨hS, hgn, bn⟩)
                  (refine step_call rfl (some 68) rfl 33 _ Tryz.func33 (by kernel_rfl) (by kernel_rfl) _ _ rfl #[.int .i64 (T : Int)] (by simp [Act.eval, Act.put, longV]) _ (HOT.out _) ?_; intro w' hx; refine hK.out _ _ (Ext.tr hS hx) ?_; intro hS; clear hx hK; (try simp only [Act.put, List.setIfInBounds_toArray, List.set_cons_zero, List.set_cons_succ]))
                  refine wpAnyH_ready (rs := [6, 13, 14]) (by kernel_rfl) (by simp) (AllReadyH.cons (o := ⟨some 73, _, _, _, _, _⟩) rfl (fun K hK => ?_) (AllReadyH.cons (o := ⟨some 14, _, _, _, _, _⟩) rfl (fun K hK => ?_) (AllReadyH.cons (o := ⟨some 15, _, _, _, _, _⟩) rfl (fun K hK => ?_) AllReadyH.nil)))
                  rotate_left 1
                  · (refine step_alloc rfl (some 14) rfl 64 rfl _ alloc_long ?_; intro g14 w' hg hx bn; have hgn := Nat.le_trans (Below.size hS) hg; refine hK.out _ _ (Ext.tr hS hx) ?_; intro hS; (try simp only [Act.put, List.setIfInBounds_toArray, List.set_cons_zero, List.set_cons_succ]); exact a1 _ _ ⟨hS, hgn, bn⟩)
                  · (refine step_alloc rfl (some 15) rfl 64 rfl _ alloc_long ?_; intro g15 w' hg hx bn; have hgn := Nat.le_trans (Below.size hS) hg; refine hK.out _ _ (Ext.tr hS hx) ?_; intro hS; (try simp only [Act.put, List.setIfInBounds_toArray, List.set_cons_zero, List.set_cons_succ]); exact b1 _ _ ⟨hS, hgn, bn⟩)
                  (refine step_call rfl (some 73) rfl 33 _ Tryz.func33 (by kernel_rfl) (by kernel_rfl) _ _ rfl #[.int .i64 (x : Int)] (by simp [Act.eval, Act.put, longV]) _ (HOX.out _) ?_; intro w' hx; refine hK.out _ _ (Ext.tr hS hx) ?_; intro hS; clear hx hK; (try simp only [Act.put, List.setIfInBounds_toArray, List.set_cons_zero, List.set_cons_succ]))
                  refine wpAnyH_ready (rs := [7, 13, 14]) (by kernel_rfl) (by simp) (AllReadyH.cons (o := ⟨some 74, _, _, _, _, _⟩) rfl (fun K hK => ?_) (AllReadyH.cons (o := ⟨some 14, _, _, _, _, _⟩) rfl (fun K hK => ?_) (AllReadyH.cons (o := ⟨some 15, _, _, _, _, _⟩) rfl (fun K hK => ?_) AllReadyH.nil)))
                  rotate_left 1
                  · (refine step_alloc rfl (some 14) rfl 64 rfl _ alloc_long ?_; intro g14 w' hg hx bn; have hgn := Nat.le_trans (Below.size hS) hg; refine hK.out _ _ (Ext.tr hS hx) ?_; intro hS; (try simp only [Act.put, List.setIfInBounds_toArray, List.set_cons_zero, List.set_cons_succ]); exact a2 _ _ ⟨hS, hgn, bn⟩)
                  · (refine step_alloc rfl (some 15) rfl 64 rfl _ alloc_long ?_; intro g15 w' hg hx bn; have hgn := Nat.le_trans (Below.size hS) hg; refine hK.out _ _ (Ext.tr hS hx) ?_; intro hS; (try simp only [Act.put, List.setIfInBounds_toArray, List.set_cons_zero, List.set_cons_succ]); exact b2 _ _ ⟨hS, hgn, bn⟩)
                  (refine step_call rfl (some 74) rfl 35 _ Tryz.func35 (by kernel_rfl) (by kernel_rfl) _ _ rfl #[longV false T, longV false x] (by simp [Act.eval, Act.put, longV]) _ (HTM.out _) ?_; intro w' hx; refine hK.out _ _ (Ext.tr hS hx) ?_; intro hS; clear hx hK; (try simp only [Act.put, List.setIfInBounds_toArray, List.set_cons_zero, List.set_cons_succ]))
                  refine wpAnyH_ready (rs := [9, 13, 14]) (by kernel_rfl) (by simp) (AllReadyH.cons (o := ⟨some 76, _, _, _, _, _⟩) rfl (fun K hK => ?_) (AllReadyH.cons (o := ⟨some 14, _, _, _, _, _⟩) rfl (fun K hK => ?_) (AllReadyH.cons (o := ⟨some 15, _, _, _, _, _⟩) rfl (fun K hK => ?_) AllReadyH.nil)))
                  rotate_left 1
                  · (refine step_alloc rfl (some 14) rfl 64 rfl _ alloc_long ?_; intro g14 w' hg hx bn; have hgn := Nat.le_trans (Below.size hS) hg; refine hK.out _ _ (Ext.tr hS hx) ?_; intro hS; (try simp only [Act.put, List.setIfInBounds_toArray, List.set_cons_zero, List.set_cons_succ]); exact a3 _ _ ⟨hS, hgn, bn⟩)
                  · (refine step_alloc rfl (some 15) rfl 64 rfl _ alloc_long ?_; intro g15 w' hg hx bn; have hgn := Nat.le_trans (Below.size hS) hg; refine hK.out _ _ (Ext.tr hS hx) ?_; intro hS; (try simp only [Act.put, List.setIfInBounds_toArray, List.set_cons_zero, List.set_cons_succ]); exact b3 _ _ ⟨hS, hgn, bn⟩)
                  (refine step_call rfl (some 76) rfl 34 _ Tryz.func34 (by kernel_rfl) (by kernel_rfl) _ _ rfl #[longV false (T * x), longV false S] (by simp [Act.eval, Act.put, longV]) _ (HOV.out _) ?_; intro w' hx; refine hK.out _ _ (Ext.tr hS hx) ?_; intro hS; clear hx hK; (try simp only [Act.put, List.setIfInBounds_toArray, List.set_cons_zero, List.set_cons_succ]))
                  refine takeD (some 66) (i := 10) (oi := ⟨some 66, _, _, _, _, _⟩) (v := (.tuple #[longV false q, longV false r])) rfl rfl (by kernel_rfl) (by kernel_rfl) (by kernel_rfl) (fun _ _ _ h => h) (Or.inl ⟨by kernel_rfl, fun _ _ => rfl⟩) hS ?_
                  (try simp only [Act.put, List.setIfInBounds_toArray, List.set_cons_zero, List.set_cons_succ])
                  refine takeD (some 77) (i := 11) (oi := ⟨some 77, _, _, _, _, _⟩) (v := (longV false q)) rfl rfl (by kernel_rfl) (by kernel_rfl) (by kernel_rfl) (fun _ _ _ h => h) (Or.inl ⟨by kernel_rfl, fun _ _ => rfl⟩) hS ?_
                  (try simp only [Act.put, List.setIfInBounds_toArray, List.set_cons_zero, List.set_cons_succ])
                  refine takeD (some 78) (i := 12) (oi := ⟨some 78, _, _, _, _, _⟩) (v := (longV false r)) rfl rfl (by kernel_rfl) (by kernel_rfl) (by kernel_rfl) (fun _ _ _ h => h) (Or.inl ⟨by kernel_rfl, fun _ _ => rfl⟩) hS ?_
                  (try simp only [Act.put, List.setIfInBounds_toArray, List.set_cons_zero, List.set_cons_succ])
                  refine wpAnyH_ready (rs := [13, 14]) (by kernel_rfl) (by simp) (AllReadyH.cons (o := ⟨some 14, _, _, _, _, _⟩) rfl (fun K hK => ?_) (AllReadyH.cons (o := ⟨some 15, _, _, _, _, _⟩) rfl (fun K hK => ?_) AllReadyH.nil))
                  · (refine step_alloc rfl (some 14) rfl 64 rfl _ alloc_long ?_; intro g14 w' hg hx bn; have hgn := Nat.le_trans (Below.size hS) hg; refine hK.out _ _ (Ext.tr hS hx) ?_; intro hS; (try simp only [Act.put, List.setIfInBounds_toArray, List.set_cons_zero, List.set_cons_succ]); exact a4 _ _ ⟨hS, hgn, bn⟩)
                  · (refine step_alloc rfl (some 15) rfl 64 rfl _ alloc_long ?_; intro g15 w' hg hx bn; have hgn := Nat.le_trans (Below.size hS) hg; refine hK.out _ _ (Ext.tr hS hx) ?_; intro hS; (try simp only [Act.put, List.setIfInBounds_toArray, List.set_cons_zero, List.set_cons_succ]); exact b4 _ _ ⟨hS, hgn, bn⟩)
                · intro cc w0 g14 hF
                  obtain ⟨hS, hgm, bm⟩ := hF
                  refine wpAnyH_ready (rs := [14]) (by kernel_rfl) (by simp) (AllReadyH.cons (o := ⟨some 15, _, _, _, _, _⟩) rfl (fun K hK => ?_) AllReadyH.nil)
                  · (refine step_alloc rfl (some 15) rfl 64 rfl _ alloc_long ?_; intro g15 w' hg hx bn; have hgn := Nat.le_trans (Below.size hS) hg; have hne : g14 ≠ g15 := (by have := bm.lt; omega); have bm := Ext.blk hx bm; refine hK.out _ _ (Ext.tr hS hx) ?_; intro hS; (try simp only [Act.put, List.setIfInBounds_toArray, List.set_cons_zero, List.set_cons_succ]); exact cc _ g14 g15 ⟨hS, ⟨hgm, bm⟩, ⟨hgn, bn⟩, hne⟩)
                · intro cc w0 g15 hF
                  obtain ⟨hS, hgm, bm⟩ := hF
                  refine wpAnyH_ready (rs := [13]) (by kernel_rfl) (by simp) (AllReadyH.cons (o := ⟨some 14, _, _, _, _, _⟩) rfl (fun K hK => ?_) AllReadyH.nil)
                  · (refine step_alloc rfl (some 14) rfl 64 rfl _ alloc_long ?_; intro g14 w' hg hx bn; have hgn := Nat.le_trans (Below.size hS) hg; have hne : g14 ≠ g15 := (by have := bm.lt; omega); have bm := Ext.blk hx bm; refine hK.out _ _ (Ext.tr hS hx) ?_; intro hS; (try simp only [Act.put, List.setIfInBounds_toArray, List.set_cons_zero, List.set_cons_succ]); exact cc _ g14 g15 ⟨hS, ⟨hgn, bn⟩, ⟨hgm, bm⟩, hne⟩)
                · intro n1 cc w0 g14 hF
                  obtain ⟨hS, hgm, bm⟩ := hF
                  refine wpAnyH_ready (rs := [9, 14]) (by kernel_rfl) (by simp) (AllReadyH.cons (o := ⟨some 76, _, _, _, _, _⟩) rfl (fun K hK => ?_) (AllReadyH.cons (o := ⟨some 15, _, _, _, _, _⟩) rfl (fun K hK => ?_) AllReadyH.nil))
                  · (refine step_call rfl (some 76) rfl 34 _ Tryz.func34 (by kernel_rfl) (by kernel_rfl) _ _ rfl #[longV false (T * x), longV false S] (by simp [Act.eval, Act.put, longV]) _ (HOV.out _) ?_; intro w' hx; have bm := Ext.blk hx bm; refine hK.out _ _ (Ext.tr hS hx) ?_; intro hS; clear hx hK; (try simp only [Act.put, List.setIfInBounds_toArray, List.set_cons_zero, List.set_cons_succ]))
                    refine takeD (some 66) (i := 10) (oi := ⟨some 66, _, _, _, _, _⟩) (v := (.tuple #[longV false q, longV false r])) rfl rfl (by kernel_rfl) (by kernel_rfl) (by kernel_rfl) (fun _ _ _ h => h) (Or.inl ⟨by kernel_rfl, fun _ _ => rfl⟩) hS ?_
                    (try simp only [Act.put, List.setIfInBounds_toArray, List.set_cons_zero, List.set_cons_succ])
                    refine takeD (some 77) (i := 11) (oi := ⟨some 77, _, _, _, _, _⟩) (v := (longV false q)) rfl rfl (by kernel_rfl) (by kernel_rfl) (by kernel_rfl) (fun _ _ _ h => h) (Or.inl ⟨by kernel_rfl, fun _ _ => rfl⟩) hS ?_
                    (try simp only [Act.put, List.setIfInBounds_toArray, List.set_cons_zero, List.set_cons_succ])
                    refine takeD (some 78) (i := 12) (oi := ⟨some 78, _, _, _, _, _⟩) (v := (longV false r)) rfl rfl (by kernel_rfl) (by kernel_rfl) (by kernel_rfl) (fun _ _ _ h => h) (Or.inl ⟨by kernel_rfl, fun _ _ => rfl⟩) hS ?_
                    (try simp only [Act.put, List.setIfInBounds_toArray, List.set_cons_zero, List.set_cons_succ])
                    exact n1 _ _ ⟨hS, hgm, bm⟩
                  · (refine step_alloc rfl (some 15) rfl 64 rfl _ alloc_long ?_; intro g15 w' hg hx bn; have hgn := Nat.le_trans (Below.size hS) hg; have hne : g14 ≠ g15 := (by have := bm.lt; omega); have bm := Ext.blk hx bm; refine hK.out _ _ (Ext.tr hS hx) ?_; intro hS; (try simp only [Act.put, List.setIfInBounds_toArray, List.set_cons_zero, List.set_cons_succ]); exact cc _ g14 g15 ⟨hS, ⟨hgm, bm⟩, ⟨hgn, bn⟩, hne⟩)
                · intro n1 cc w0 g15 hF
                  obtain ⟨hS, hgm, bm⟩ := hF
                  refine wpAnyH_ready (rs := [9, 13]) (by kernel_rfl) (by simp) (AllReadyH.cons (o := ⟨some 76, _, _, _, _, _⟩) rfl (fun K hK => ?_) (AllReadyH.cons (o := ⟨some 14, _, _, _, _, _⟩) rfl (fun K hK => ?_) AllReadyH.nil))
                  · (refine step_call rfl (some 76) rfl 34 _ Tryz.func34 (by kernel_rfl) (by kernel_rfl) _ _ rfl #[longV false (T * x), longV false S] (by simp [Act.eval, Act.put, longV]) _ (HOV.out _) ?_; intro w' hx; have bm := Ext.blk hx bm; refine hK.out _ _ (Ext.tr hS hx) ?_; intro hS; clear hx hK; (try simp only [Act.put, List.setIfInBounds_toArray, List.set_cons_zero, List.set_cons_succ]))
                    refine takeD (some 66) (i := 10) (oi := ⟨some 66, _, _, _, _, _⟩) (v := (.tuple #[longV false q, longV false r])) rfl rfl (by kernel_rfl) (by kernel_rfl) (by kernel_rfl) (fun _ _ _ h => h) (Or.inl ⟨by kernel_rfl, fun _ _ => rfl⟩) hS ?_
                    (try simp only [Act.put, List.setIfInBounds_toArray, List.set_cons_zero, List.set_cons_succ])
                    refine takeD (some 77) (i := 11) (oi := ⟨some 77, _, _, _, _, _⟩) (v := (longV false q)) rfl rfl (by kernel_rfl) (by kernel_rfl) (by kernel_rfl) (fun _ _ _ h => h) (Or.inl ⟨by kernel_rfl, fun _ _ => rfl⟩) hS ?_
                    (try simp only [Act.put, List.setIfInBounds_toArray, List.set_cons_zero, List.set_cons_succ])
                    refine takeD (some 78) (i := 12) (oi := ⟨some 78, _, _, _, _, _⟩) (v := (longV false r)) rfl rfl (by kernel_rfl) (by kernel_rfl) (by kernel_rfl) (fun _ _ _ h => h) (Or.inl ⟨by kernel_rfl, fun _ _ => rfl⟩) hS ?_
                    (try simp only [Act.put, List.setIfInBounds_toArray, List.set_cons_zero, List.set_cons_succ])
                    exact n1 _ _ ⟨hS, hgm, bm⟩
                  · (refine step_alloc rfl (some 14) rfl 64 rfl _ alloc_long ?_; intro g14 w' hg hx bn; have hgn := Nat.le_trans (Below.size hS) hg; have hne : g14 ≠ g15 := (by have := bm.lt; omega); have bm := Ext.blk hx bm; refine hK.out _ _ (Ext.tr hS hx) ?_; intro hS; (try simp only [Act.put, List.setIfInBounds_toArray, List.set_cons_zero, List.set_cons_succ]); exact cc _ g14 g15 ⟨hS, ⟨hgn, bn⟩, ⟨hgm, bm⟩, hne⟩)
                · intro n1 cc w0 g14 hF
                  obtain ⟨hS, hgm, bm⟩ := hF
                  refine wpAnyH_ready (rs := [7, 14]) (by kernel_rfl) (by simp) (AllReadyH.cons (o := ⟨some 74, _, _, _, _, _⟩) rfl (fun K hK => ?_) (AllReadyH.cons (o := ⟨some 15, _, _, _, _, _⟩) rfl (fun K hK => ?_) AllReadyH.nil))
                  · (refine step_call rfl (some 74) rfl 35 _ Tryz.func35 (by kernel_rfl) (by kernel_rfl) _ _ rfl #[longV false T, longV false x] (by simp [Act.eval, Act.put, longV]) _ (HTM.out _) ?_; intro w' hx; have bm := Ext.blk hx bm; refine hK.out _ _ (Ext.tr hS hx) ?_; intro hS; clear hx hK; (try simp only [Act.put, List.setIfInBounds_toArray, List.set_cons_zero, List.set_cons_succ]))
                    exact n1 _ _ ⟨hS, hgm, bm⟩
                  · (refine step_alloc rfl (some 15) rfl 64 rfl _ alloc_long ?_; intro g15 w' hg hx bn; have hgn := Nat.le_trans (Below.size hS) hg; have hne : g14 ≠ g15 := (by have := bm.lt; omega); have bm := Ext.blk hx bm; refine hK.out _ _ (Ext.tr hS hx) ?_; intro hS; (try simp only [Act.put, List.setIfInBounds_toArray, List.set_cons_zero, List.set_cons_succ]); exact cc _ g14 g15 ⟨hS, ⟨hgm, bm⟩, ⟨hgn, bn⟩, hne⟩)
                · intro n1 cc w0 g15 hF
                  obtain ⟨hS, hgm, bm⟩ := hF
                  refine wpAnyH_ready (rs := [7, 13]) (by kernel_rfl) (by simp) (AllReadyH.cons (o := ⟨some 74, _, _, _, _, _⟩) rfl (fun K hK => ?_) (AllReadyH.cons (o := ⟨some 14, _, _, _, _, _⟩) rfl (fun K hK => ?_) AllReadyH.nil))
                  · (refine step_call rfl (some 74) rfl 35 _ Tryz.func35 (by kernel_rfl) (by kernel_rfl) _ _ rfl #[longV false T, longV false x] (by simp [Act.eval, Act.put, longV]) _ (HTM.out _) ?_; intro w' hx; have bm := Ext.blk hx bm; refine hK.out _ _ (Ext.tr hS hx) ?_; intro hS; clear hx hK; (try simp only [Act.put, List.setIfInBounds_toArray, List.set_cons_zero, List.set_cons_succ]))
                    exact n1 _ _ ⟨hS, hgm, bm⟩
                  · (refine step_alloc rfl (some 14) rfl 64 rfl _ alloc_long ?_; intro g14 w' hg hx bn; have hgn := Nat.le_trans (Below.size hS) hg; have hne : g14 ≠ g15 := (by have := bm.lt; omega); have bm := Ext.blk hx bm; refine hK.out _ _ (Ext.tr hS hx) ?_; intro hS; (try simp only [Act.put, List.setIfInBounds_toArray, List.set_cons_zero, List.set_cons_succ]); exact cc _ g14 g15 ⟨hS, ⟨hgn, bn⟩, ⟨hgm, bm⟩, hne⟩)
                · intro n1 cc w0 g14 hF
                  obtain ⟨hS, hgm, bm⟩ := hF
                  refine wpAnyH_ready (rs := [6, 14]) (by kernel_rfl) (by simp) (AllReadyH.cons (o := ⟨some 73, _, _, _, _, _⟩) rfl (fun K hK => ?_) (AllReadyH.cons (o := ⟨some 15, _, _, _, _, _⟩) rfl (fun K hK => ?_) AllReadyH.nil))
                  · (refine step_call rfl (some 73) rfl 33 _ Tryz.func33 (by kernel_rfl) (by kernel_rfl) _ _ rfl #[.int .i64 (x : Int)] (by simp [Act.eval, Act.put, longV]) _ (HOX.out _) ?_; intro w' hx; have bm := Ext.blk hx bm; refine hK.out _ _ (Ext.tr hS hx) ?_; intro hS; clear hx hK; (try simp only [Act.put, List.setIfInBounds_toArray, List.set_cons_zero, List.set_cons_succ]))
                    exact n1 _ _ ⟨hS, hgm, bm⟩
                  · (refine step_alloc rfl (some 15) rfl 64 rfl _ alloc_long ?_; intro g15 w' hg hx bn; have hgn := Nat.le_trans (Below.size hS) hg; have hne : g14 ≠ g15 := (by have := bm.lt; omega); have bm := Ext.blk hx bm; refine hK.out _ _ (Ext.tr hS hx) ?_; intro hS; (try simp only [Act.put, List.setIfInBounds_toArray, List.set_cons_zero, List.set_cons_succ]); exact cc _ g14 g15 ⟨hS, ⟨hgm, bm⟩, ⟨hgn, bn⟩, hne⟩)
                · intro n1 cc w0 g15 hF
                  obtain ⟨hS, hgm, bm⟩ := hF
                  refine wpAnyH_ready (rs := [6, 13]) (by kernel_rfl) (by simp) (AllReadyH.cons (o := ⟨some 73, _, _, _, _, _⟩) rfl (fun K hK => ?_) (AllReadyH.cons (o := ⟨some 14, _, _, _, _, _⟩) rfl (fun K hK => ?_) AllReadyH.nil))
                  · (refine step_call rfl (some 73) rfl 33 _ Tryz.func33 (by kernel_rfl) (by kernel_rfl) _ _ rfl #[.int .i64 (x : Int)] (by simp [Act.eval, Act.put, longV]) _ (HOX.out _) ?_; intro w' hx; have bm := Ext.blk hx bm; refine hK.out _ _ (Ext.tr hS hx) ?_; intro hS; clear hx hK; (try simp only [Act.put, List.setIfInBounds_toArray, List.set_cons_zero, List.set_cons_succ]))
                    exact n1 _ _ ⟨hS, hgm, bm⟩
                  · (refine step_alloc rfl (some 14) rfl 64 rfl _ alloc_long ?_; intro g14 w' hg hx bn; have hgn := Nat.le_trans (Below.size hS) hg; have hne : g14 ≠ g15 := (by have := bm.lt; omega); have bm := Ext.blk hx bm; refine hK.out _ _ (Ext.tr hS hx) ?_; intro hS; (try simp only [Act.put, List.setIfInBounds_toArray, List.set_cons_zero, List.set_cons_succ]); exact cc _ g14 g15 ⟨hS, ⟨hgn, bn⟩, ⟨hgm, bm⟩, hne⟩)
                · intro n1 cc w0 g14 hF
                  obtain ⟨hS, hgm, bm⟩ := hF
                  refine wpAnyH_ready (rs := [1, 14]) (by kernel_rfl) (by simp) (AllReadyH.cons (o := ⟨some 68, _, _, _, _, _⟩) rfl (fun K hK => ?_) (AllReadyH.cons (o := ⟨some 15, _, _, _, _, _⟩) rfl (fun K hK => ?_) AllReadyH.nil))
                  · (refine step_call rfl (some 68) rfl 33 _ Tryz.func33 (by kernel_rfl) (by kernel_rfl) _ _ rfl #[.int .i64 (T : Int)] (by simp [Act.eval, Act.put, longV]) _ (HOT.out _) ?_; intro w' hx; have bm := Ext.blk hx bm; refine hK.out _ _ (Ext.tr hS hx) ?_; intro hS; clear hx hK; (try simp only [Act.put, List.setIfInBounds_toArray, List.set_cons_zero, List.set_cons_succ]))
                    exact n1 _ _ ⟨hS, hgm, bm⟩
                  · (refine step_alloc rfl (some 15) rfl 64 rfl _ alloc_long ?_; intro g15 w' hg hx bn; have hgn := Nat.le_trans (Below.size hS) hg; have hne : g14 ≠ g15 := (by have := bm.lt; omega); have bm := Ext.blk hx bm; refine hK.out _ _ (Ext.tr hS hx) ?_; intro hS; (try simp only [Act.put, List.setIfInBounds_toArray, List.set_cons_zero, List.set_cons_succ]); exact cc _ g14 g15 ⟨hS, ⟨hgm, bm⟩, ⟨hgn, bn⟩, hne⟩)
                · intro n1 cc w0 g15 hF
                  obtain ⟨hS, hgm, bm⟩ := hF
                  refine wpAnyH_ready (rs := [1, 13]) (by kernel_rfl) (by simp) (AllReadyH.cons (o := ⟨some 68, _, _, _, _, _⟩) rfl (fun K hK => ?_) (AllReadyH.cons (o := ⟨some 14, _, _, _, _, _⟩) rfl (fun K hK => ?_) AllReadyH.nil))
                  · (refine step_call rfl (some 68) rfl 33 _ Tryz.func33 (by kernel_rfl) (by kernel_rfl) _ _ rfl #[.int .i64 (T : Int)] (by simp [Act.eval, Act.put, longV]) _ (HOT.out _) ?_; intro w' hx; have bm := Ext.blk hx bm; refine hK.out _ _ (Ext.tr hS hx) ?_; intro hS; clear hx hK; (try simp only [Act.put, List.setIfInBounds_toArray, List.set_cons_zero, List.set_cons_succ]))
                    exact n1 _ _ ⟨hS, hgm, bm⟩
                  · (refine step_alloc rfl (some 14) rfl 64 rfl _ alloc_long ?_; intro g14 w' hg hx bn; have hgn := Nat.le_trans (Below.size hS) hg; have hne : g14 ≠ g15 := (by have := bm.lt; omega); have bm := Ext.blk hx bm; refine hK.out _ _ (Ext.tr hS hx) ?_; intro hS; (try simp only [Act.put, List.setIfInBounds_toArray, List.set_cons_zero, List.set_cons_succ]); exact cc _ g14 g15 ⟨hS, ⟨hgn, bn⟩, ⟨hgm, bm⟩, hne⟩)
                · intro w0 g14 g15 hF
                  obtain ⟨hS, ⟨hg14, b14⟩, ⟨hg15, b15⟩, hne⟩ := hF
                  refine wpAnyH_ready (rs := [15]) (by kernel_rfl) (by simp) (AllReadyH.cons (o := ⟨none, _, _, _, _, _⟩) rfl (fun K hK => ?_) AllReadyH.nil)
                  (refine step_store rfl none rfl 64 (.tmp 14) (.tmp 77) rfl g14 64 (arrA false fun _ => 0) (arrA false (dg q)) rfl rfl b14 (by rw [arr_size, arr_size]) (arr_one _ _) 17 long_wide (arr_size _ _) ?_; intro w' c14 hkeep hext; have c15 := hkeep _ _ _ (Ne.symm hne) b15; refine hK.out _ _ (hext _ hg14 hS) ?_; intro hS; clear hkeep hext hK b14 b15; (try simp only [Act.put, List.setIfInBounds_toArray, List.set_cons_zero, List.set_cons_succ]))
                  refine wpAnyH_ready (rs := [16]) (by kernel_rfl) (by simp) (AllReadyH.cons (o := ⟨none, _, _, _, _, _⟩) rfl (fun K hK => ?_) AllReadyH.nil)
                  (refine step_store rfl none rfl 64 (.tmp 15) (.tmp 78) rfl g15 64 (arrA false fun _ => 0) (arrA false (dg r)) rfl rfl c15 (by rw [arr_size, arr_size]) (arr_one _ _) 17 long_wide (arr_size _ _) ?_; intro w' d15 hkeep hext; have d14 := hkeep _ _ _ hne c14; refine hK.out _ _ (hext _ hg15 hS) ?_; intro hS; clear hkeep hext hK c14 c15; (try simp only [Act.put, List.setIfInBounds_toArray, List.set_cons_zero, List.set_cons_succ]))
                  refine wpAnyH_done (by kernel_rfl) ?_ _
                  go_wp2_with fail
                  go_meet
                  case rel => exact ⟨g14, g15, rfl, rfl, hg14, hg15, hS, d14, d15⟩
                · intro n1 w0 g14 g15 hF
                  obtain ⟨hS, ⟨hg14, b14⟩, ⟨hg15, b15⟩, hne⟩ := hF
                  refine wpAnyH_ready (rs := [9]) (by kernel_rfl) (by simp) (AllReadyH.cons (o := ⟨some 76, _, _, _, _, _⟩) rfl (fun K hK => ?_) AllReadyH.nil)
                  (refine step_call rfl (some 76) rfl 34 _ Tryz.func34 (by kernel_rfl) (by kernel_rfl) _ _ rfl #[longV false (T * x), longV false S] (by simp [Act.eval, Act.put, longV]) _ (HOV.out _) ?_; intro w' hx; have b14 := Ext.blk hx b14; have b15 := Ext.blk hx b15; refine hK.out _ _ (Ext.tr hS hx) ?_; intro hS; clear hx hK; (try simp only [Act.put, List.setIfInBounds_toArray, List.set_cons_zero, List.set_cons_succ]))
                  refine takeD (some 66) (i := 10) (oi := ⟨some 66, _, _, _, _, _⟩) (v := (.tuple #[longV false q, longV false r])) rfl rfl (by kernel_rfl) (by kernel_rfl) (by kernel_rfl) (fun _ _ _ h => h) (Or.inl ⟨by kernel_rfl, fun _ _ => rfl⟩) hS ?_
                  (try simp only [Act.put, List.setIfInBounds_toArray, List.set_cons_zero, List.set_cons_succ])
                  refine takeD (some 77) (i := 11) (oi := ⟨some 77, _, _, _, _, _⟩) (v := (longV false q)) rfl rfl (by kernel_rfl) (by kernel_rfl) (by kernel_rfl) (fun _ _ _ h => h) (Or.inl ⟨by kernel_rfl, fun _ _ => rfl⟩) hS ?_
                  (try simp only [Act.put, List.setIfInBounds_toArray, List.set_cons_zero, List.set_cons_succ])
                  refine takeD (some 78) (i := 12) (oi := ⟨some 78, _, _, _, _, _⟩) (v := (longV false r)) rfl rfl (by kernel_rfl) (by kernel_rfl) (by kernel_rfl) (fun _ _ _ h => h) (Or.inl ⟨by kernel_rfl, fun _ _ => rfl⟩) hS ?_
                  (try simp only [Act.put, List.setIfInBounds_toArray, List.set_cons_zero, List.set_cons_succ])
                  exact n1 _ _ _ ⟨hS, ⟨hg14, b14⟩, ⟨hg15, b15⟩, hne⟩
                · intro n1 w0 g14 g15 hF
                  obtain ⟨hS, ⟨hg14, b14⟩, ⟨hg15, b15⟩, hne⟩ := hF
                  refine wpAnyH_ready (rs := [7]) (by kernel_rfl) (by simp) (AllReadyH.cons (o := ⟨some 74, _, _, _, _, _⟩) rfl (fun K hK => ?_) AllReadyH.nil)
                  (refine step_call rfl (some 74) rfl 35 _ Tryz.func35 (by kernel_rfl) (by kernel_rfl) _ _ rfl #[longV false T, longV false x] (by simp [Act.eval, Act.put, longV]) _ (HTM.out _) ?_; intro w' hx; have b14 := Ext.blk hx b14; have b15 := Ext.blk hx b15; refine hK.out _ _ (Ext.tr hS hx) ?_; intro hS; clear hx hK; (try simp only [Act.put, List.setIfInBounds_toArray, List.set_cons_zero, List.set_cons_succ]))
                  exact n1 _ _ _ ⟨hS, ⟨hg14, b14⟩, ⟨hg15, b15⟩, hne⟩
                · intro n1 w0 g14 g15 hF
                  obtain ⟨hS, ⟨hg14, b14⟩, ⟨hg15, b15⟩, hne⟩ := hF
                  refine wpAnyH_ready (rs := [6]) (by kernel_rfl) (by simp) (AllReadyH.cons (o := ⟨some 73, _, _, _, _, _⟩) rfl (fun K hK => ?_) AllReadyH.nil)
                  (refine step_call rfl (some 73) rfl 33 _ Tryz.func33 (by kernel_rfl) (by kernel_rfl) _ _ rfl #[.int .i64 (x : Int)] (by simp [Act.eval, Act.put, longV]) _ (HOX.out _) ?_; intro w' hx; have b14 := Ext.blk hx b14; have b15 := Ext.blk hx b15; refine hK.out _ _ (Ext.tr hS hx) ?_; intro hS; clear hx hK; (try simp only [Act.put, List.setIfInBounds_toArray, List.set_cons_zero, List.set_cons_succ]))
                  exact n1 _ _ _ ⟨hS, ⟨hg14, b14⟩, ⟨hg15, b15⟩, hne⟩
                · intro n1 w0 g14 g15 hF
                  obtain ⟨hS, ⟨hg14, b14⟩, ⟨hg15, b15⟩, hne⟩ := hF
                  refine wpAnyH_ready (rs := [1]) (by kernel_rfl) (by simp) (AllReadyH.cons (o := ⟨some 68, _, _, _, _, _⟩) rfl (fun K hK => ?_) AllReadyH.nil)
                  (refine step_call rfl (some 68) rfl 33 _ Tryz.func33 (by kernel_rfl) (by kernel_rfl) _ _ rfl #[.int .i64 (T : Int)] (by simp [Act.eval, Act.put, longV]) _ (HOT.out _) ?_; intro w' hx; have b14 := Ext.blk hx b14; have b15 := Ext.blk hx b15; refine hK.out _ _ (Ext.tr hS hx) ?_; intro hS; clear hx hK; (try simp only [Act.put, List.setIfInBounds_toArray, List.set_cons_zero, List.set_cons_succ]))
                  exact n1 _ _ _ ⟨hS, ⟨hg14, b14⟩, ⟨hg15, b15⟩, hne⟩
              case rest =>
                obtain ⟨g, h, rfl, rfl, hg, hh, hx2, d14, d15⟩ := hcut
                have b12 := BlkE c12 hx2
                have b7 := BlkE c7 hx2
                have o1 := own_ext hx2 oq
                have o2 := own_ext hx2 or
                have l1 := fun k hk => (oq.lt k hk).2
                have l2 := fun k hk => (or.lt k hk).2
                obtain ⟨Aq, cq, rfl⟩ := own_slice oq
                obtain ⟨Ar, cr, rfl⟩ := own_slice or
                have hqs : q = shQ T l j := by rw [Hq.out, Hx.out, HS.out]; rfl
                have hrs : r = shR T l j := by rw [Hr2.out, Hx.out, HS.out]; rfl
                have hq63 : q < 9223372036854775808 := by
                  rw [hqs]
                  exact Nat.lt_of_le_of_lt (shQ_le T l j (by have := Hlen.out; omega)) hT
                have KF : Hid (∀ w : World, Calls Tryz.prog 31 #[longV false q] w fun e w' => e = .returned (.tuple #[.int .i64 (q : Nat), .bool true]) ∧ Ext w w') := Lib.hid fun w => by
                  have := fits_any false q w (big16 _ (by omega))
                  rwa [show nf (sg false q) = (q : Int) by simp [nf, sg, fits64]; omega, show fits64 (sg false q) = true by simp [sg, fits64]; omega] at this
                have hLq : q ≤ shL T l j := by rw [hqs]; exact shL_ge T l j (by have := Hlen.out; omega) (by rw [← HS.out]; exact HS2.out)
                have hL16 : shL T l j < 65536 ^ 16 := big16 _ (by unfold shL; omega)
                have hq16 : q < 65536 ^ 16 := big16 _ (by omega)
                have hLs : shL T l j - q = shL T l (j + 1) := by rw [hqs]; exact shL_step T l j
                have KP : Hid (∀ w : World, Calls Tryz.prog 36 #[longV false (shL T l j), .agg #[.bool true, .int .u64 (dg q 0 : Nat), .int .u64 (dg q 1 : Nat), .int .u64 (dg q 2 : Nat), .int .u64 (dg q 3 : Nat), .int .u64 (dg q 4 : Nat), .int .u64 (dg q 5 : Nat), .int .u64 (dg q 6 : Nat), .int .u64 (dg q 7 : Nat), .int .u64 (dg q 8 : Nat), .int .u64 (dg q 9 : Nat), .int .u64 (dg q 10 : Nat), .int .u64 (dg q 11 : Nat), .int .u64 (dg q 12 : Nat), .int .u64 (dg q 13 : Nat), .int .u64 (dg q 14 : Nat), .int .u64 (dg q 15 : Nat)]] w fun e w' => e = .returned (longV false (shL T l (j + 1))) ∧ Ext w w') := Lib.hid fun w => by
                  have := plus_long false true (shL T l j) q w hL16 hq16
                  rw [plusV_ge rfl hLq, hLs] at this
                  exact this
                have HQ1 : Hid (ints ((List.range j).map fun i => (shQ T l i : Int)) ++ [.int .i64 (q : Nat)] = ints ((List.range (j + 1)).map fun i => (shQ T l i : Int))) := Lib.hid (by rw [hqs, ← inR_snoc])
                have HR1 : Hid (ldR j (shR T l) ++ (arrA false (dg r)).toList = ldR (j + 1) (shR T l)) := Lib.hid (by rw [hrs, ldR_snoc])
                have e140 : wc.cell? ⟨g, 0, none⟩ = some (.bool false) := (d14.cell 0).trans (arr_get0 _ _)
                clear oq or hLs hLq hL16 hq16 hqs hrs c12 c7
                generalize shL T l j = L at *
                obtain ⟨L', hL'⟩ : ∃ x, x = shL T l (j + 1) := ⟨_, rfl⟩
                rw [← hL'] at KP
                have HL' := Lib.hid hL'
                clear hL'
                go_upto_region 22 with (first
                  | (with_reducible refine wpL_load_row rfl 64 (.tmp 14) rfl _ 64 (arrA false (dg q)) 17 rfl d14 long_wide (arr_size _ _) ?_)
                  | (go_at_call 31; (with_reducible refine (KF.out _).mono ?_); rintro e w5 ⟨rfl, hx5⟩)
                  | (at_builtin; go_must (refine wpL_append rfl (.tmp 84) (.tmp 86) 46 rfl base 2 _ 1 8 Tryz.underlying46 el_i64s (.slice Aq j cq) _ _ rfl (own_ext (ExtA hx5) o1) _ _ _ _ rfl (Rd.toN (rd_new w5 #[.int .i64 (q : Nat)] 2)) (by intro u hu; simp at hu; subst hu; rfl) _ _ rfl HQ1.out (by simp only [maxLen]; omega) (by omega) (by have := hx2.size; have := hx5.size; simp; omega) ?_); intro v1 w6 hown1 hg1 _; obtain ⟨Aq1, cq1, rfl⟩ := own_slice hown1))
                have x1 : Ext wc (w5.alloc (.cells #[.int .i64 (q : Nat)] 2)) := ExtA hx5
                have y1 := own_ext x1 o1
                have e12 := blk_type (BlkE b12 x1) y1 hg1 (by decide)
                have e7 := blk_type (BlkE b7 x1) y1 hg1 (by decide)
                have e14 := blk_type (BlkE d14 x1) y1 hg1 (by decide)
                have e15 := blk_type (BlkE d15 x1) y1 hg1 (by decide)
                have p2 := World.ownsRow.kept (own_ext x1 o2) hg1 (own_ne (own_ext x1 o2) y1 (by decide))
                have hxw6 : Ext w w6 := Ext.grown (hx.tr (hx2.tr x1)) hg1 (fun r hr => by have := own_lt y1 r hr; omega)
                have hb6 : base ≤ w6.heap.size := by have := hg1.size; have := x1.size; have := hx2.size; omega
                have z6 : wr.heap.size ≤ w6.heap.size := by have := hg1.size; have := x1.size; have := hx2.size; omega
                clear hx5 x1 y1 o1 o2 b12 b7 d14 d15 hg1 e140 hx2
                have e15l : Blk w6 h 64 #[.bool false, .int .u64 (dg r 0 : Nat), .int .u64 (dg r 1 : Nat), .int .u64 (dg r 2 : Nat), .int .u64 (dg r 3 : Nat), .int .u64 (dg r 4 : Nat), .int .u64 (dg r 5 : Nat), .int .u64 (dg r 6 : Nat), .int .u64 (dg r 7 : Nat), .int .u64 (dg r 8 : Nat), .int .u64 (dg r 9 : Nat), .int .u64 (dg r 10 : Nat), .int .u64 (dg r 11 : Nat), .int .u64 (dg r 12 : Nat), .int .u64 (dg r 13 : Nat), .int .u64 (dg r 14 : Nat), .int .u64 (dg r 15 : Nat)] := e15
                have rl := rdL_new w6 r
                go_upto_region 23 with (first
                  | (with_reducible refine wpL_load_row rfl 64 (.tmp 15) rfl _ 64 #[.bool false, .int .u64 (dg r 0 : Nat), .int .u64 (dg r 1 : Nat), .int .u64 (dg r 2 : Nat), .int .u64 (dg r 3 : Nat), .int .u64 (dg r 4 : Nat), .int .u64 (dg r 5 : Nat), .int .u64 (dg r 6 : Nat), .int .u64 (dg r 7 : Nat), .int .u64 (dg r 8 : Nat), .int .u64 (dg r 9 : Nat), .int .u64 (dg r 10 : Nat), .int .u64 (dg r 11 : Nat), .int .u64 (dg r 12 : Nat), .int .u64 (dg r 13 : Nat), .int .u64 (dg r 14 : Nat), .int .u64 (dg r 15 : Nat)] 17 rfl e15l long_wide rfl ?_)
                  | (at_builtin; go_must (refine wpL_append rfl (.tmp 88) (.tmp 90) 69 rfl base 64 _ 17 136 Tryz.underlying69 el_long (.slice Ar j cr) _ _ rfl (World.ownsRow.alloc p2 _) _ _ _ _ rfl rl (arr_one _ _) _ _ rfl HR1.out (by simp only [maxLen]; omega) (by omega) (by simp; omega) ?_); intro v2 w7 hown2 hg2 hor2; obtain ⟨Ar1, cr1, rfl⟩ := own_slice hown2))
                have f12 := BlkG (BlkA (o := .cells (arrA false (dg r)) 64) e12) hg2 (fun hc => nr hc.symm)
                have f7 := BlkG (BlkA (o := .cells (arrA false (dg r)) 64) e7) hg2 (fun hc => by have := own_lt p2 _ hc.symm; omega)
                have f14 := BlkG (BlkA (o := .cells (arrA false (dg r)) 64) e14) hg2 (fun hc => by have := l2 _ hc.symm; omega)
                have p1 := World.ownsRow.kept (World.ownsRow.alloc hown1 (.cells (arrA false (dg r)) 64)) hg2 (own_ne (World.ownsRow.alloc hown1 (.cells (arrA false (dg r)) 64)) (World.ownsRow.alloc p2 (.cells (arrA false (dg r)) 64)) (by decide))
                have hxw7 : Ext w w7 := Ext.grown (ExtA hxw6) hg2 (fun r hr => by have := own_lt p2 r hr; omega)
                have hb7 : base ≤ w7.heap.size := by have := hg2.size; simp at this; omega
                have n1 : (Value.slice Aq1 (j + 1) cq1).ownBlock ≠ some g12 := own_off_type p1 f12 (by decide)
                have n2 : (Value.slice Ar1 (j + 1) cr1).ownBlock ≠ some g12 := fun hc => by
                  have hl := e12.lt
                  rcases hor2 with ho | ho
                  · exact nr (ho.symm.trans hc)
                  · rw [ho] at hc; simp at hc; omega
                have e140 : w7.cell? ⟨g, 0, none⟩ = some (.bool false) := (f14.cell 0).trans (arr_get0 _ _)
                clear hown1 hg2 hor2 e12 e7 e14 e15 p2 hxw6 hb6 z6 l1 l2 nq nr hx hbase hg hh
                have hne7 : g7 ≠ g12 := by have := q4; omega
                have P1 := Lib.hid p1
                have P2 := Lib.hid hown2
                clear p1 hown2 z2
                go_wp2_with (first
                  | (with_reducible refine wpL_load_row rfl 64 (.tmp 12) rfl _ 64 (arrA false (dg L)) 17 rfl f12 long_wide (arr_size _ _) ?_)
                  | (refine wpL_load_dig rfl (.tmp 96) rfl g rfl q false f14 ?_)
                  | (go_at_call 36; (with_reducible refine (KP.out _).mono ?_); rintro e w8 ⟨rfl, hx8⟩; have f12 := BlkE f12 hx8)
                  | (with_reducible refine wpL_store_row rfl 64 (.tmp 12) (.tmp 99) rfl _ 64 (arrA false (dg L)) (arrA false (dg L')) rfl rfl f12 (by rw [arr_size, arr_size]) (arr_one _ _) 17 long_wide (arr_size _ _) ?_))
                go_roundw
                case rel =>
                  have hx7 : Ext w (w8.setRow g12 (arrA false (dg L'))) := ExtR (by have := q4; have := q5; omega) (hxw7.tr hx8)
                  exact ⟨j + 1, by omega, by go_num, hx7, by have := hx8.size; simp; omega, own_row_off n1 (own_ext hx8 P1.out), own_row_off n2 (own_ext hx8 P2.out), n1, n2, by rw [← HL'.out]; exact Blk.setRow_ f12, BlkR hne7 (BlkE f7 hx8)⟩
                case measure => simp [intOf]; omega
            · obtain rfl : j = k := by omega
              have hkl : l.length = j := Hlen.out
              obtain ⟨Aq, cq, rfl⟩ := own_slice oq
              obtain ⟨Ar, cr, rfl⟩ := own_slice or
              have rq := (RdN.of_own oq).to1
              have rr := RdN.of_own or
              have hS0 : 0 < shS l := by rw [← HS.out]; exact HS2.out
              obtain ⟨M, hM⟩ : ∃ M, M = shL T l j := ⟨_, rfl⟩
              have hMT : M ≤ T := by rw [hM]; unfold shL; omega
              have KF : Hid (∀ w : World, Calls Tryz.prog 31 #[longV false M] w fun e w' => e = .returned (.tuple #[.int .i64 (M : Nat), .bool true]) ∧ Ext w w') := Lib.hid fun w => by
                have := fits_any false M w (big16 _ (by omega))
                rwa [show nf (sg false M) = (M : Int) by simp [nf, sg, fits64]; omega, show fits64 (sg false M) = true by simp [sg, fits64]; omega] at this
              have hrank : Hid (∀ m, m < j → (shareN T l m : Int) = (shQ T l m : Int) + (if sumF (fun x => (bef (shR T l) x m).toNat) j < M then 1 else 0)) := Lib.hid fun m hm => by
                have h1 := sh_rank T l hS0 m (by omega)
                rw [hkl, ← hM] at h1
                unfold shareN
                rw [hkl, ← hM, h1]
                by_cases h2 : sumF (fun x => (bef (shR T l) x m).toNat) j < M <;> simp [h2]
              rw [← hM] at c12
              have HR := Lib.hid rr
              have HQ := Lib.hid rq
              have hshT : Hid (∀ m, m < j → shareN T l m ≤ T) := Lib.hid fun m hm => by
                have h1 := sumF_one_le (f := shareN T l) (show m < l.length by omega)
                rw [share_sum T l hS0] at h1
                exact h1
              have hqT : Hid (∀ m, m < j → shQ T l m ≤ T) := Lib.hid fun m hm => shQ_le T l m (by omega)
              have hshR : Hid (∀ m, shR T l m < 9223372036854775808) := Lib.hid fun m => by have h1 := shR_lt T l m hS0; rw [← HS.out] at h1; have := HS3.out; omega
              clear oq or nq nr c7 hS0 hM rq rr
              have hxw := Lib.hid hx
              go_wp2_with (first
                | (with_reducible refine wpL_load_row rfl 64 (.tmp 12) rfl _ 64 (arrA false (dg M)) 17 rfl c12 long_wide (arr_size _ _) ?_)
                | (go_at_call 31; (with_reducible refine (KF.out _).mono ?_); rintro e w5 ⟨rfl, hx5⟩))
              have hw5 : Ext w w5 := hxw.out.tr hx5
              have HR5 := Lib.hid (RdN.ext HR.out hx5)
              have HQ5 := Lib.hid (Rd.ext HQ.out hx5)
              have HW5 := Lib.hid hw5
              clear hx hw5 hx5 c12 HR HQ
              go_loopw [20, 21, 22, 23, 24, 25, 109] (fun c20 _ _ _ _ _ c109 wr => ShS3 w5 j T l c20 c109 wr) (fun _ _ _ _ _ _ c109 _ => j - (intOf c109).toNat)
              case atStart => exact ⟨0, by omega, rfl, ExtA (Ext.rfl' _), own_new (s := 1) w5 w5.heap.size #[] 2 0 (Nat.le_refl _) (by decide) rfl⟩
              case round =>
                obtain ⟨m, hm, rfl, hx3, o3⟩ := hrel
                rename World => wy
                obtain ⟨Ao, co, rfl⟩ := own_slice o3
                have HX3 := Lib.hid hx3
                have O3 := Lib.hid o3
                clear hx3 o3
                by_cases hmk : m < j
                · obtain ⟨b, o, rfl, hcel⟩ := ldR_at HR5.out (by omega)
                  have hsm := hshT.out m hmk
                  have hqm := hqT.out m hmk
                  have hrk := Lib.hid (hrank.out m hmk)
                  have HC := Lib.hid hcel
                  have HsR := hshR
                  clear hcel hrank hshT hqT
                  go_wp2_with fail
                  go_loopw [22, 23, 24, 114] (fun c22 _ _ c114 wr => ShS4 wy j T l m c22 c114 wr) (fun _ _ _ c114 _ => j - (intOf c114).toNat)
                  case atStart => exact ⟨0, by omega, rfl, by simp [sumF], (by repeat (first | with_reducible exact Below.refl _ _ | with_reducible assumption | with_reducible refine ExtD ?_ | with_reducible refine ExtDN ?_ | with_reducible refine ExtA ?_ | (with_reducible refine ExtR ?_ ?_; (first | omega | (dsimp only; omega) | (simp; done) | (simp; omega))) | (with_reducible refine ExtS ?_ ?_; (first | omega | (dsimp only; omega) | (simp; done) | (simp; omega))) | with_reducible refine Ext.tr ?_ (by with_reducible assumption)))⟩
                  case round =>
                    obtain ⟨p, hp, rfl, rfl, hx4⟩ := hrel
                    rename World => wz
                    have HX4 := Lib.hid hx4
                    clear hx4
                    by_cases hpk : p < j
                    · have c1 : wz.rangeAt b (o + p * 17) (arrA false (dg (shR T l p))).toList := range_ext (HC.out p hpk) (HX3.out.tr HX4.out)
                      have c2 : wz.rangeAt b (o + m * 17) (arrA false (dg (shR T l m))).toList := range_ext (HC.out m hmk) (HX3.out.tr HX4.out)
                      have hstep : Hid (sumF (fun x => (bef (shR T l) x m).toNat) (p + 1) = sumF (fun x => (bef (shR T l) x m).toNat) p + (bef (shR T l) p m).toNat) := Lib.hid rfl
                      have hsl := bef_le (shR T l) m p
                      have hcase := bef_cmp (shR T l) p m
                      have KC : Hid (∀ W : World, Calls Tryz.prog 37 #[longV false (shR T l p), longV false (shR T l m)] W fun e w' => e = .returned (.int .i64 (cmpI (shR T l p) (shR T l m))) ∧ Ext W w') := Lib.hid fun W => cmp_any false false _ _ W (big16 _ (by have := HsR.out p; omega)) (big16 _ (by have := HsR.out m; omega))
                      have HSS : Hid (∀ w', Ext wz w' → w'.rangeAt b (o + p * 17) (arrA false (dg (shR T l p))).toList ∧ w'.rangeAt b (o + m * 17) (arrA false (dg (shR T l m))).toList) := Lib.hid fun w' h => ⟨range_ext c1 h, range_ext c2 h⟩
                      have HC1 := Lib.hid hcase
                      clear hcase c1 c2 hsm hqm
                      obtain ⟨a1, ha1⟩ : ∃ a, a = sumF (fun x => (bef (shR T l) x m).toNat) (p + 1) := ⟨_, rfl⟩
                      rw [← ha1] at hstep
                      have HA1 : Hid (a1 = sumF (fun x => (bef (shR T l) x m).toNat) (p + 1)) := Lib.hid ha1
                      clear ha1
                      generalize sumF (fun x => (bef (shR T l) x m).toNat) p = a0 at *
                      generalize bef (shR T l) p m = Bv at *
                      generalize cmpI (shR T l p) (shR T l m) = cc at *
                      generalize shR T l p = xp at *
                      generalize shR T l m = xm at *
                      go_wp2_with fail
                      obtain ⟨⟨ld, lu, lrow⟩, lz⟩ := long_wide
                      have lr : ld.isRow = true := by revert lrow; cases ld <;> simp [TypeDesc.isRow]
                      refine wp_region_held_drew (S := fun w' => Ext wz w') (by kernel_rfl) (ExtD (Ext.rfl' _)) (fun hS => ?_)
                      refine takeD (some 117) (i := 0) (v := .slice (some ⟨b, o, none⟩) j cr) rfl rfl (by kernel_rfl) (by kernel_rfl) (by kernel_rfl) (fun _ _ _ h => h) (Or.inl ⟨by kernel_rfl, fun _ _ => rfl⟩) hS ?_; (try simp only [Act.put, List.setIfInBounds_toArray, List.set_cons_zero, List.set_cons_succ])
                      refine takeD (some 118) (i := 1) (v := .int .i64 (p : Nat)) rfl rfl (by kernel_rfl) (by kernel_rfl) (by kernel_rfl) (fun _ _ _ h => h) (Or.inl ⟨by kernel_rfl, fun _ _ => rfl⟩) hS ?_; (try simp only [Act.put, List.setIfInBounds_toArray, List.set_cons_zero, List.set_cons_succ])
                      refine takeD (some 119) (i := 2) (v := .pointer (some ⟨b, o + p * 17, none⟩)) rfl rfl (by kernel_rfl) (by kernel_rfl) (by kernel_rfl) (fun _ _ _ h => h) (Or.inl ⟨by kernel_rfl, fun w hw => by go_simp⟩) hS ?_; (try simp only [Act.put, List.setIfInBounds_toArray, List.set_cons_zero, List.set_cons_succ])
                      refine takeD (some 120) (i := 3) (v := .agg (arrA false (dg xp))) rfl rfl (by kernel_rfl) (by kernel_rfl) (by kernel_rfl) (fun _ _ _ h => h) (yieldsIf_load_mid (by kernel_rfl) 64 (.tmp 119) rfl b (o + p * 17) rfl (arrA false (dg xp)).toList ld (fun w hw => (HSS.out w hw).1) lu lr (by rw [Array.length_toList, arr_size]; exact lz)) hS ?_; (try simp only [Act.put, List.setIfInBounds_toArray, List.set_cons_zero, List.set_cons_succ])
                      refine takeD (some 121) (i := 4) (v := .slice (some ⟨b, o, none⟩) j cr) rfl rfl (by kernel_rfl) (by kernel_rfl) (by kernel_rfl) (fun _ _ _ h => h) (Or.inl ⟨by kernel_rfl, fun _ _ => rfl⟩) hS ?_; (try simp only [Act.put, List.setIfInBounds_toArray, List.set_cons_zero, List.set_cons_succ])
                      refine takeD (some 122) (i := 5) (v := .int .i64 (m : Nat)) rfl rfl (by kernel_rfl) (by kernel_rfl) (by kernel_rfl) (fun _ _ _ h => h) (Or.inl ⟨by kernel_rfl, fun _ _ => rfl⟩) hS ?_; (try simp only [Act.put, List.setIfInBounds_toArray, List.set_cons_zero, List.set_cons_succ])
                      refine takeD (some 123) (i := 6) (v := .pointer (some ⟨b, o + m * 17, none⟩)) rfl rfl (by kernel_rfl) (by kernel_rfl) (by kernel_rfl) (fun _ _ _ h => h) (Or.inl ⟨by kernel_rfl, fun w hw => by go_simp⟩) hS ?_; (try simp only [Act.put, List.setIfInBounds_toArray, List.set_cons_zero, List.set_cons_succ])
                      refine takeD (some 124) (i := 7) (v := .agg (arrA false (dg xm))) rfl rfl (by kernel_rfl) (by kernel_rfl) (by kernel_rfl) (fun _ _ _ h => h) (yieldsIf_load_mid (by kernel_rfl) 64 (.tmp 123) rfl b (o + m * 17) rfl (arrA false (dg xm)).toList ld (fun w hw => (HSS.out w hw).2) lu lr (by rw [Array.length_toList, arr_size]; exact lz)) hS ?_; (try simp only [Act.put, List.setIfInBounds_toArray, List.set_cons_zero, List.set_cons_succ])
                      refine wpAnyH_ready (rs := [8]) (by kernel_rfl) (by simp) (AllReadyH.cons rfl (fun K hK => ?_) AllReadyH.nil)
                      (refine step_call rfl (some 125) rfl 37 _ Tryz.func37 (by kernel_rfl) (by kernel_rfl) _ _ rfl #[longV false xp, longV false xm] (by simp [Act.eval, Act.put, longV]) (.int .i64 cc) (KC.out _) ?_; intro w6 hx6; refine hK.out _ _ (Ext.tr hS hx6) ?_; intro hS; clear hx6 hK; (try simp only [Act.put, List.setIfInBounds_toArray, List.set_cons_zero, List.set_cons_succ]))
                      refine takeD (some 24) (i := 9) (v := .int .i64 cc) rfl rfl (by kernel_rfl) (by kernel_rfl) (by kernel_rfl) (fun _ _ _ h => h) (Or.inl ⟨by kernel_rfl, fun _ _ => rfl⟩) hS ?_; (try simp only [Act.put, List.setIfInBounds_toArray, List.set_cons_zero, List.set_cons_succ])
                      refine wpAnyH_done (by kernel_rfl) ?_ _
                      have hxf : Ext wy w6 := HX4.out.tr hS
                      have hal64 : j ≤ 64 := by omega
                      have hst := hstep.out
                      clear hstep
                      have H1 := Lib.hid hxf
                      clear hxf hS
                      rcases HC1.out with ⟨rfl, rfl⟩ | ⟨rfl, hB⟩ | ⟨rfl, rfl⟩
                      · have Hst : Hid (a1 = a0 + 1) := Lib.hid hst
                        clear hst
                        go_wp2_with fail
                        go_roundw
                        case rel => exact ⟨p + 1, by omega, by go_num, by rw [← HA1.out, Hst.out]; go_num, H1.out⟩
                        case measure => simp [intOf]; omega
                      · by_cases hpm : p < m
                        · have Hst : Hid (a1 = a0 + 1) := Lib.hid (by rw [hst, hB, decide_eq_true hpm]; rfl)
                          clear hst hB
                          go_wp2_with fail
                          go_roundw
                          case rel => exact ⟨p + 1, by omega, by go_num, by rw [← HA1.out, Hst.out]; go_num, H1.out⟩
                          case measure => simp [intOf]; omega
                        · have Hst : Hid (a1 = a0) := Lib.hid (by rw [hst, hB, decide_eq_false hpm]; rfl)
                          clear hst hB
                          go_wp2_with fail
                          go_roundw
                          case rel => exact ⟨p + 1, by omega, by go_num, by rw [← HA1.out, Hst.out], H1.out⟩
                          case measure => simp [intOf]; omega
                      · have Hst : Hid (a1 = a0) := Lib.hid hst
                        clear hst
                        go_wp2_with fail
                        go_roundw
                        case rel => exact ⟨p + 1, by omega, by go_num, by rw [← HA1.out, Hst.out], H1.out⟩
                        case measure => simp [intOf]; omega
                    · obtain rfl : p = j := by omega
                      obtain ⟨bq, oq, rfl, hcq⟩ := at_ints HQ5.out hmk
                      have hgd : ((List.range p).map fun i => (shQ T l i : Int)).getD m 0 = (shQ T l m : Int) := by
                        rw [List.getD_eq_getElem?_getD, List.getElem?_map, List.getElem?_range hmk]; rfl
                      rw [hgd] at hcq
                      have e0 := (HX3.out.tr HX4.out).cell hcq
                      have O4 := Lib.hid (own_ext HX4.out O3.out)
                      have HX5 := Lib.hid (HX3.out.tr HX4.out)
                      have hsz : w5.heap.size ≤ wz.heap.size := HX5.out.size
                      have hin := inR_snoc m (shareN T l)
                      have hrr := hrk.out
                      have ha64 := bef_le (shR T l) m p
                      clear hgd hcq hrk
                      generalize sumF (fun x => (bef (shR T l) x m).toNat) p = a0 at *
                      generalize shQ T l m = q0 at *
                      by_cases ha : a0 < M
                      · have t1 : decide ((a0 : Int) < (M : Int)) = true := by simp; omega
                        rw [if_pos ha] at hrr
                        have HI : Hid (ints ((List.range m).map fun i => (shareN T l i : Int)) ++ [.int .i64 ((q0 : Int) + 1)] = ints ((List.range (m + 1)).map fun i => (shareN T l i : Int))) := Lib.hid (by rw [hin, hrr])
                        have hq1 : (q0 : Int) + 1 ≤ 9223372036854775807 := by omega
                        clear hin hrr
                        go_wp2_with (at_builtin; go_must (refine wpL_append rfl (.tmp 149) (.tmp 151) 46 rfl w5.heap.size 2 _ 1 8 Tryz.underlying46 el_i64s (.slice Ao m co) _ _ rfl (own_ext (ExtA (Ext.rfl' _)) O4.out) _ _ _ _ rfl (Rd.toN (rd_new wz #[.int .i64 ((q0 : Int) + 1)] 2)) (by intro u hu; simp at hu; subst hu; rfl) _ _ rfl HI.out (by simp only [maxLen]; omega) (by omega) (by simp; omega) ?_); intro v1 w7 hown1 hg1 _; obtain ⟨A7, c7, rfl⟩ := own_slice hown1)
                        go_roundw
                        case rel => exact ⟨m + 1, by omega, by go_num, Ext.grown (ExtA HX5.out) hg1 (fun r hr => own_lt O4.out r hr), hown1⟩
                        case measure => simp [intOf]; omega
                      · have t1 : decide ((a0 : Int) < (M : Int)) = false := by simp; omega
                        rw [if_neg ha, Int.add_zero] at hrr
                        have HI : Hid (ints ((List.range m).map fun i => (shareN T l i : Int)) ++ [.int .i64 (q0 : Nat)] = ints ((List.range (m + 1)).map fun i => (shareN T l i : Int))) := Lib.hid (by rw [hin, hrr])
                        clear hin hrr
                        go_wp2_with (at_builtin; go_must (refine wpL_append rfl (.tmp 149) (.tmp 151) 46 rfl w5.heap.size 2 _ 1 8 Tryz.underlying46 el_i64s (.slice Ao m co) _ _ rfl (own_ext (ExtA (Ext.rfl' _)) O4.out) _ _ _ _ rfl (Rd.toN (rd_new wz #[.int .i64 (q0 : Nat)] 2)) (by intro u hu; simp at hu; subst hu; rfl) _ _ rfl HI.out (by simp only [maxLen]; omega) (by omega) (by simp; omega) ?_); intro v1 w7 hown1 hg1 _; obtain ⟨A7, c7, rfl⟩ := own_slice hown1)
                        go_roundw
                        case rel => exact ⟨m + 1, by omega, by go_num, Ext.grown (ExtA HX5.out) hg1 (fun r hr => own_lt O4.out r hr), hown1⟩
                        case measure => simp [intOf]; omega
                · obtain rfl : m = j := by omega
                  have Hend : Hid ((List.range m).map (fun i => (shareN T l i : Int)) = shList T l) := Lib.hid (by unfold shList; rw [Hlen.out])
                  go_wp2_with fail
                  go_ret2
                  have o3 := O3.out
                  rw [Hend.out] at o3
                  exact ⟨HW5.out.tr HX3.out, fun h => absurd Hok.out h, fun _ => ⟨Ao, co, rfl, by rw [show ((T : Int)).toNat = T by simp]; exact own_low o3 HW5.out.size⟩⟩
      · have hsf' : sumFits l = false := by simpa using hsf
        have Hno := Lib.hid (show ¬ shOk t l from fun h => hsf h.2.2.2.1)
        clear hsf
        go_wp2_with (first
          | (go_at_call 30; go_must (with_reducible refine (sum_long A k c l _ hr hl (by simp only [maxLen]; omega)).mono ?_); rintro e w1 ⟨rfl, hx1⟩)
          | (with_reducible refine wpL_store_new rfl 64 (.tmp 7) (.tmp 45) rfl w1.heap.size 64 (arrA false fun _ => 0) (arrA (sumL l).1 (dg (sumL l).2)) rfl rfl (by simp) (by rw [arr_size, arr_size]) (arr_one _ _) 17 long_wide (arr_size _ _) ?_)
          | (with_reducible refine wpL_load_row rfl 64 (.tmp 7) rfl _ 64 (arrA (sumL l).1 (dg (sumL l).2)) 17 rfl (BlkN rfl) long_wide (arr_size _ _) ?_)
          | (go_at_call 31; go_must (with_reducible refine (HF.out _).mono ?_); rintro e w2 ⟨rfl, hx2⟩))
        go_ret2
        exact ref_bad (by repeat (first | with_reducible exact Below.refl _ _ | with_reducible assumption | with_reducible refine ExtD ?_ | with_reducible refine ExtDN ?_ | with_reducible refine ExtA ?_ | (with_reducible refine ExtR ?_ ?_; (first | omega | (dsimp only; omega) | (simp; done) | (simp; omega))) | (with_reducible refine ExtS ?_ ?_; (first | omega | (dsimp only; omega) | (simp; done) | (simp; omega))) | with_reducible refine Ext.tr ?_ (by with_reducible assumption))) Hno.out rfl
end Go.Proofs.YtjomgppbialeoaaGreat
