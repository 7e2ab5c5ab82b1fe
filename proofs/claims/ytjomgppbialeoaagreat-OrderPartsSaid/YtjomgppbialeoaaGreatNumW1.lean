/-
  The walks of num's wide numbers: widen, plus, narrow, Sum.
-/
import Derived.Test.YtjomgppbialeoaaGreatProg
import Derived.Test.YtjomgppbialeoaaGreatBase
import Derived.Laws.Externs
namespace Go.Proofs.YtjomgppbialeoaaGreat
open Go.RowKit
set_option linter.unusedVariables false
set_option linter.unusedSimpArgs false
/-- The low half of a sum of three. -/
def addLo (x y c : Int) : Int := (x + y + c) % 18446744073709551616
def addHi (x y c : Int) : Int := (x + y + c) / 18446744073709551616
theorem addLo_bd (x y c : Int) : 0 ≤ addLo x y c ∧ addLo x y c < 18446744073709551616 := by unfold addLo; omega
theorem addHi_bd (x y c : Int) (hx : 0 ≤ x) (hx' : x < 18446744073709551616) (hy : 0 ≤ y) (hy' : y < 18446744073709551616) (hc : 0 ≤ c) (hc' : c ≤ 1) : 0 ≤ addHi x y c ∧ addHi x y c ≤ 1 := by unfold addHi; omega
theorem add64_run (x y c : Int) (hx : 0 ≤ x) (hy : 0 ≤ y) (hc0 : 0 ≤ c) (hc : c ≤ 1) (w : World) :
    (callFunc 74 #[.int .u64 x, .int .u64 y, .int .u64 c]).run Tryz.prog w = .ok (.value (.tuple #[.int .u64 (addLo x y c), .int .u64 (addHi x y c)])) w := by
  rw [run_callFunc_extern Tryz.func74 (by kernel_rfl) (by kernel_rfl) (by kernel_rfl) (e := add64Entry) (by kernel_rfl), run_add64 x y c hx hy hc0 hc]
  rfl
def wHi (v : Int) : Int := IntKind.u64.wrap (v / 9223372036854775808)
def wLo (v : Int) : Int := IntKind.u64.wrap v
set_option maxHeartbeats 400000 in
theorem widen_any (v : Int) (w : World) (h0 : -9223372036854775808 ≤ v) (h1 : v ≤ 9223372036854775807) :
    Calls Tryz.prog 65 #[.int .i64 v] w fun e w' => e = .returned (.agg #[.int .u64 (wHi v), .int .u64 (wLo v)]) ∧ Ext w w' := by
  go_enter Tryz.func65, Tryz.ntmps65
  go_wp2
  exact bodyPost_ret (v := .agg #[.int .u64 (wHi v), .int .u64 (wLo v)]) (by simp [results, Tryz.results65, go_sem, wHi, wLo]) rfl ⟨rfl, (Below.refl _ _).alloc (Nat.le_refl _) _⟩
set_option maxHeartbeats 400000 in
theorem plus_any (a b c d : Int) (w : World) (ha : 0 ≤ a) (ha' : a < 18446744073709551616) (hb : 0 ≤ b) (hb' : b < 18446744073709551616) (hc : 0 ≤ c) (hc' : c < 18446744073709551616) (hd : 0 ≤ d) (hd' : d < 18446744073709551616) :
    Calls Tryz.prog 64 #[.agg #[.int .u64 a, .int .u64 b], .agg #[.int .u64 c, .int .u64 d]] w
      fun e w' => e = .returned (.agg #[.int .u64 (addLo a c (addHi b d 0)), .int .u64 (addLo b d 0)]) ∧ Ext w w' := by
  have hz := addHi_bd b d 0 hb hb' hd hd' (by omega) (by omega)
  have k1 := add64_run b d 0 hb hd (by omega) (by omega)
  have k2 := add64_run a c (addHi b d 0) ha hc hz.1 hz.2
  go_enter Tryz.func64, Tryz.ntmps64
  go_wp2
  exact bodyPost_ret (v := .agg #[.int .u64 (addLo a c (addHi b d 0)), .int .u64 (addLo b d 0)]) (by simp [results, Tryz.results64, go_sem]) rfl
    ⟨rfl, (((Below.refl _ _).alloc (Nat.le_refl _) _).alloc (by simp) _).alloc (by simp; omega) _⟩
/-- The high half of a sum of two wide numbers. -/
def addHi' (a c b d : Int) : Int := addLo a c (addHi b d 0)
/-- What a wide number comes to, where it fits. -/
def wFits (a b : Int) : Bool := decide (a = wHi (wrap64 b))
/-- The number itself, 0 where it doesn't fit. -/
def narrowV (a b : Int) : Int := if wFits a b then wrap64 b else 0
theorem wrap64_bd (b : Int) : -9223372036854775808 ≤ wrap64 b ∧ wrap64 b ≤ 9223372036854775807 := by unfold wrap64; omega
theorem wrap_eq64 (b : Int) : IntKind.i64.wrap b = wrap64 b := by rw [IntKind.wrap_i64]; unfold wrap64; rfl
theorem wrap_i64_bd (b : Int) : -9223372036854775808 ≤ IntKind.i64.wrap b ∧ IntKind.i64.wrap b ≤ 9223372036854775807 := by rw [IntKind.wrap_i64]; omega
theorem neq_wide (a b c d : Int) (w : World) :
    (binOp .neq 90 (.agg #[.int .u64 a, .int .u64 b]) (.agg #[.int .u64 c, .int .u64 d])).run Tryz.prog w = .ok (.bool (!(a == c && b == d))) w := by
  rw [run_neq_struct, run_equalIn_agg w 9999 90 _ _ (by kernel_rfl) (by kernel_rfl)]
  simp [Program.fieldsOf, Tryz.underlying90, Op.eqFields, go_sem]
  by_cases h1 : a = c <;> by_cases h2 : b = d <;> simp [h1, h2]
set_option maxHeartbeats 400000 in
theorem narrow_any (a b : Int) (w : World) (ha : 0 ≤ a) (ha' : a < 18446744073709551616) (hb : 0 ≤ b) (hb' : b < 18446744073709551616) :
    Calls Tryz.prog 66 #[.agg #[.int .u64 a, .int .u64 b]] w
      fun e w' => e = .returned (.tuple #[.int .i64 (narrowV a b), .bool (wFits a b)]) ∧ Ext w w' := by
  have hb1 := Lib.hid (wrap_i64_bd b)
  have hlo : wLo (IntKind.i64.wrap b) = b := by rw [wrap_eq64]; unfold wLo wrap64; rw [IntKind.wrap_u64]; omega
  have hn := neq_wide a b (wHi (IntKind.i64.wrap b)) (wLo (IntKind.i64.wrap b))
  have ht : (!(a == wHi (IntKind.i64.wrap b) && b == wLo (IntKind.i64.wrap b))) = !wFits a b := by rw [hlo, wrap_eq64]; simp [wFits, Bool.beq_eq_decide_eq]
  rw [ht] at hn
  clear ht hlo
  cases hf : wFits a b
  all_goals
    rw [hf] at hn
    have Hf := Lib.hid hf
    clear hf
    go_enter Tryz.func66, Tryz.ntmps66
    go_wp2_with fail
    go_region_with (go_at_call 65; go_must (refine (widen_any _ _ hb1.out.1 hb1.out.2).mono ?_); rintro e w1 ⟨rfl, hx1⟩; obtain ⟨hc1, hf1⟩ := bcell hx1)
    all_goals
      go_wp2_with fail
      go_ret2
      exact ⟨by simp [narrowV, Hf.out], (by repeat (first | with_reducible exact Below.refl _ _ | with_reducible assumption | with_reducible refine ExtD ?_ | with_reducible refine ExtDN ?_ | with_reducible refine ExtA ?_ | (with_reducible refine ExtR ?_ ?_; (first | omega | (dsimp only; omega) | (simp; done) | (simp; omega))) | (with_reducible refine ExtS ?_ ?_; (first | omega | (dsimp only; omega) | (simp; done) | (simp; omega))) | with_reducible refine Ext.tr ?_ (by with_reducible assumption)))⟩
/-- The sum of a list as a wide number: high half, low half. -/
def wAdd (p : Int × Int) (v : Int) : Int × Int := (addHi' p.1 (wHi v) p.2 (wLo v), addLo p.2 (wLo v) 0)
def wSum (l : List Int) : Int × Int := l.foldl wAdd (0, 0)
theorem wHi_bd (v : Int) : 0 ≤ wHi v ∧ wHi v < 18446744073709551616 := by unfold wHi; rw [IntKind.wrap_u64]; omega
theorem wLo_bd (v : Int) : 0 ≤ wLo v ∧ wLo v < 18446744073709551616 := by unfold wLo; rw [IntKind.wrap_u64]; omega
theorem wSum_snoc (l : List Int) (v : Int) : wSum (l ++ [v]) = wAdd (wSum l) v := by simp [wSum, List.foldl_append]
theorem wSum_bd (l : List Int) : (0 ≤ (wSum l).1 ∧ (wSum l).1 < 18446744073709551616) ∧ (0 ≤ (wSum l).2 ∧ (wSum l).2 < 18446744073709551616) := by
  have h : ∀ (l : List Int) (p : Int × Int), ((0 ≤ p.1 ∧ p.1 < 18446744073709551616) ∧ (0 ≤ p.2 ∧ p.2 < 18446744073709551616)) →
      ((0 ≤ (l.foldl wAdd p).1 ∧ (l.foldl wAdd p).1 < 18446744073709551616) ∧ (0 ≤ (l.foldl wAdd p).2 ∧ (l.foldl wAdd p).2 < 18446744073709551616)) := by
    intro l
    induction l with
    | nil => intro p hp; exact hp
    | cons v l ih => intro p hp; exact ih _ ⟨addLo_bd _ _ _, addLo_bd _ _ _⟩
  exact h l (0, 0) ⟨⟨by decide, by decide⟩, by decide, by decide⟩
/-- What Sum answers. -/
def sumFits (l : List Int) : Bool := wFits (wSum l).1 (wSum l).2
def sumOf (l : List Int) : Int := narrowV (wSum l).1 (wSum l).2
def I64 (l : List Int) : Prop := ∀ v ∈ l, -9223372036854775808 ≤ v ∧ v ≤ 9223372036854775807
def ints (l : List Int) : List Value := l.map (Value.int .i64)
theorem ntake_snoc (l : List Int) (k : Nat) (h : k < l.length) : l.take (k + 1) = l.take k ++ [l.getD k 0] := by
  rw [List.take_succ_eq_append_getElem h]; simp [List.getD, List.getElem?_eq_getElem h]
end Go.Proofs.YtjomgppbialeoaaGreat
