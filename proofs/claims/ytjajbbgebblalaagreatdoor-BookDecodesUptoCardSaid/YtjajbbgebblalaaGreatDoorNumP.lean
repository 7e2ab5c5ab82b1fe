/-
  Plain laws of num's sums: what Sum answers is the exact sum where it fits. No program is walked here.
-/
import Derived.Test.YtjajbbgebblalaaGreatDoorNumW1
import Derived.Test.YtjajbbgebblalaaGreatDoorLongP
namespace Go.Proofs.YtjajbbgebblalaaGreatDoor
open Go.RowKit
set_option linter.unusedVariables false
set_option linter.unusedSimpArgs false
theorem wHi_eq (v : Int) (h0 : -9223372036854775808 ≤ v) (h1 : v ≤ 9223372036854775807) : wHi v = if v < 0 then 18446744073709551615 else 0 := by unfold wHi; rw [IntKind.wrap_u64]; split <;> omega
theorem wAdd_eq (s v : Int) (h0 : -9223372036854775808 ≤ v) (h1 : v ≤ 9223372036854775807) :
    wAdd (s % 340282366920938463463374607431768211456 / 18446744073709551616, s % 340282366920938463463374607431768211456 % 18446744073709551616) v =
      ((s + v) % 340282366920938463463374607431768211456 / 18446744073709551616, (s + v) % 340282366920938463463374607431768211456 % 18446744073709551616) := by
  have e1 : wHi v = if v < 0 then 18446744073709551615 else 0 := by unfold wHi; rw [IntKind.wrap_u64]; split <;> omega
  have e2 : wLo v = if v < 0 then v + 18446744073709551616 else v := by unfold wLo; rw [IntKind.wrap_u64]; split <;> omega
  unfold wAdd addHi' addLo addHi
  simp only [e1, e2]
  split
  · refine Prod.ext ?_ ?_ <;> simp only <;> omega
  · refine Prod.ext ?_ ?_ <;> simp only <;> omega
theorem wSum_eq (l : List Int) (hl : I64 l) :
    wSum l = (l.sum % 340282366920938463463374607431768211456 / 18446744073709551616, l.sum % 340282366920938463463374607431768211456 % 18446744073709551616) := by
  have h : ∀ (l : List Int) (s : Int), I64 l →
      l.foldl wAdd (s % 340282366920938463463374607431768211456 / 18446744073709551616, s % 340282366920938463463374607431768211456 % 18446744073709551616) =
        ((s + l.sum) % 340282366920938463463374607431768211456 / 18446744073709551616, (s + l.sum) % 340282366920938463463374607431768211456 % 18446744073709551616) := by
    intro l
    induction l with
    | nil => intro s _; simp
    | cons v l ih =>
      intro s hs
      have hv := hs v (by simp)
      rw [List.foldl_cons, wAdd_eq s v hv.1 hv.2, ih (s + v) (fun x hx => hs x (by simp [hx]))]
      simp [Int.add_assoc]
  have := h l 0 hl
  simpa [wSum] using this
theorem sum_bd (l : List Int) (hl : I64 l) : -9223372036854775808 * (l.length : Int) ≤ l.sum ∧ l.sum ≤ 9223372036854775807 * (l.length : Int) := by
  induction l with
  | nil => simp
  | cons v l ih =>
    have hv := hl v (by simp)
    have := ih (fun x hx => hl x (by simp [hx]))
    simp only [List.sum_cons, List.length_cons]
    omega
theorem wFits_iff (s : Int) (h0 : -85070591730234615865843651857942052864 ≤ s) (h1 : s ≤ 85070591730234615865843651857942052864) :
    wFits (s % 340282366920938463463374607431768211456 / 18446744073709551616) (s % 340282366920938463463374607431768211456 % 18446744073709551616) = fits64 s := by
  have hw := wrap64_bd (s % 340282366920938463463374607431768211456 % 18446744073709551616)
  unfold wFits fits64
  rw [decide_eq_decide, wHi_eq _ hw.1 hw.2]
  unfold wrap64
  split <;> omega
theorem sumFits_eq (l : List Int) (hl : I64 l) (hn : l.length ≤ 9223372036854775807) : sumFits l = fits64 l.sum := by
  have hb := sum_bd l hl
  unfold sumFits
  rw [wSum_eq l hl]
  exact wFits_iff _ (by omega) (by omega)
theorem sumOf_eq (l : List Int) (hl : I64 l) (hn : l.length ≤ 9223372036854775807) : sumOf l = nf l.sum := by
  have hb := sum_bd l hl
  unfold sumOf narrowV nf
  rw [wSum_eq l hl]
  simp only
  rw [wFits_iff _ (by omega) (by omega)]
  split
  · rename_i h
    have := of_decide_eq_true h
    unfold wrap64
    omega
  · rfl
theorem I64.take_ {l : List Int} (h : I64 l) (k : Nat) : I64 (l.take k) := fun v hv => h v (List.mem_of_mem_take hv)
theorem I64.rev {l : List Int} (h : I64 l) : I64 l.reverse := fun v hv => h v (by simpa using hv)
theorem sum_rev (l : List Int) : l.reverse.sum = l.sum := by
  induction l with
  | nil => rfl
  | cons v l ih => simp [List.sum_append, ih, Int.add_comm]
theorem i64_of_wf {v : Int} (h : (Lit.int .i64 v).wf = true) : -9223372036854775808 ≤ v ∧ v ≤ 9223372036854775807 := by
  simp [Lit.wf, IntKind.min, IntKind.max, IntKind.signed, IntKind.bits] at h
  omega
theorem rd_of_ints {w : World} {x : Addr} {len cap : Nat} {zs : List Int} (hl : len ≤ cap) (hz : zs.length = cap) (hc : ∀ i, i < zs.length → w.cell? (x.add i) = some (.int .i64 (zs.getD i 0))) :
    Rd w (some x) len (ints (zs.take len)) := by
  refine ⟨by simp [ints]; omega, fun hn => ?_⟩
  obtain ⟨b, o, sp⟩ := x
  have h0 := hc 0 (by omega)
  have hsp : sp = none := by simpa [Addr.add] using World.cell?_spot h0
  subst hsp
  refine ⟨b, o, rfl, fun j u hu => ?_⟩
  have hj : j < len := by
    have := (List.getElem?_eq_some_iff.1 hu).1
    simp [ints] at this; omega
  have h := hc j (by omega)
  have ha : (⟨b, o, none⟩ : Addr).add j = ⟨b, o + j, none⟩ := by by_cases hj0 : j = 0 <;> simp [Addr.add, hj0]
  rw [ha] at h
  rw [h]
  simp [ints, List.getElem?_take, hj] at hu
  have hjl : j < zs.length := by omega
  simp [List.getElem?_eq_getElem hjl] at hu ⊢
  exact hu
end Go.Proofs.YtjajbbgebblalaaGreatDoor
