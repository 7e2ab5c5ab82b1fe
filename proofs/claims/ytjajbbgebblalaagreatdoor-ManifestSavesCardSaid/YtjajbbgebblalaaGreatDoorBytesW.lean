/-
  Words on slices of bytes, and on new memory that holds bytes.
-/
import Derived.Test.YtjajbbgebblalaaGreatDoorProg
import Derived.Test.YtjajbbgebblalaaGreatDoorSteps
import Derived.Test.YtjajbbgebblalaaGreatDoorOwn
import Derived.Test.YtjajbbgebblalaaGreatDoorVarP
namespace Go.Proofs.YtjajbbgebblalaaGreatDoor
open Go.RowKit
set_option linter.unusedVariables false
set_option linter.unusedSimpArgs false
def u8s (l : List UInt8) : List Value := l.map fun b => .int .u8 (b.toNat : Nat)
theorem u8s_len (l : List UInt8) : (u8s l).length = l.length := by simp [u8s]
theorem u8s_app (l m : List UInt8) : u8s (l ++ m) = u8s l ++ u8s m := by simp [u8s]
theorem u8s_cons (c : UInt8) (l : List UInt8) : u8s (c :: l) = .int .u8 (c.toNat : Nat) :: u8s l := rfl
theorem u8s_take (l : List UInt8) (k : Nat) : u8s (l.take k) = (u8s l).take k := by simp [u8s]
theorem u8s_drop (l : List UInt8) (k : Nat) : u8s (l.drop k) = (u8s l).drop k := by simp [u8s]
theorem one_u8 (l : List UInt8) : ∀ u ∈ u8s l, u.oneCell' = true := fun u hu => by simp [u8s] at hu; obtain ⟨x, _, rfl⟩ := hu; rfl
theorem at_u8 {w : World} {A : Option Addr} {n k : Nat} {l : List UInt8} (h : Rd w A n (u8s l)) (hk : k < n) :
    ∃ b o, A = some ⟨b, o, none⟩ ∧ w.cell? ⟨b, o + k, none⟩ = some (.int .u8 ((l.getD k 0).toNat : Nat)) := by
  obtain ⟨b, o, e, hc⟩ := h.2 (by omega)
  have hl : k < l.length := by have := h.1; simp [u8s] at this; omega
  exact ⟨b, o, e, hc k _ (by simp [u8s, List.getD, List.getElem?_eq_getElem hl])⟩
theorem el_u8 : Elem Tryz.prog 5 (.int .u8 0) 1 1 := ⟨by kernel_rfl, rfl, by decide⟩
/-- New memory that holds the bytes l: what is answered. -/
def NewB (w : World) (l : List UInt8) (e : Ending) (w' : World) : Prop := ∃ A c, e = .returned (.slice A l.length c) ∧ Ext w w' ∧ w'.ownsRow w.heap.size 5 1 (.slice A l.length c) l.length (u8s l)
theorem rd_own {w : World} {base : Nat} {A : Option Addr} {c n : Nat} {l : List UInt8} (h : w.ownsRow base 5 1 (.slice A n c) n (u8s l)) : Rd w A n (u8s l) := Rd.of_own h
theorem own_len {w : World} {base : Nat} {v : Value} {n : Nat} {l : List UInt8} (h : w.ownsRow base 5 1 v n (u8s l)) : n = l.length := by
  have := h.1; rw [u8s_len] at this; omega
/-- A part of what reads. -/
theorem Rd.part {w : World} {b o n : Nat} {l : List Value} (h : Rd w (some ⟨b, o, none⟩) n l) (i m : Nat) (hi : i + m ≤ n) : Rd w (some ⟨b, o + i, none⟩) m ((l.drop i).take m) := by
  refine ⟨by have := h.1; simp; omega, fun hm => ⟨b, o + i, rfl, fun j u hu => ?_⟩⟩
  obtain ⟨b', o', e, hc⟩ := h.2 (by omega)
  injection e with e
  injection e with e1 e2
  subst e1 e2
  have hj : j < m := by
    rcases Nat.lt_or_ge j m with h1 | h1
    · exact h1
    · rw [List.getElem?_eq_none (by simp; omega)] at hu; cases hu
  rw [Nat.add_assoc]
  refine hc (i + j) u ?_
  rw [List.getElem?_take, if_pos hj, List.getElem?_drop] at hu
  exact hu
theorem rd_byte (w : World) (x : Int) (c : UInt8) (h : x = (c.toNat : Nat)) : Rd (w.alloc (.cells #[.int .u8 x] 5)) (some ⟨w.heap.size, 0, none⟩) 1 (u8s [c]) := by
  subst h
  exact rd_new w _ _
theorem size_u8 (w : World) : (sizeOf (Tryz.prog.elem 36)).run Tryz.prog w = .ok 1 w := by kernel_rfl
theorem elem_u8 : Tryz.prog.underlying 36 = some (.slice (Tryz.prog.elem 36)) := by kernel_rfl
/-- 's[at:]'. -/
theorem slice_lo (A : Option Addr) (n c i : Nat) (h : i ≤ n) (hc : n ≤ c) :
    ∃ A', (∀ W : World, (Instr.slice 36 (.slice A n c) (some (.int .i64 (i : Nat))) none none).run Tryz.prog W = .ok (.slice A' (n - i) (c - i)) W) ∧ ∀ (W : World) (l : List UInt8), Rd W A n (u8s l) → Rd W A' (n - i) (u8s (l.drop i)) := by
  refine ⟨if c = i then A else A.map (·.add (i * 1)), fun W => ?_, fun W l hr => ?_⟩
  · rw [run_slice_l W 36 A n c elem_u8 .i64 i (by omega) (by omega), size_u8, Result.andThen_ok]
    simp [sliced]
  · refine ⟨by have := hr.1; rw [u8s_len] at this; rw [u8s_len]; simp; omega, fun h0 => ?_⟩
    obtain ⟨b, o, rfl, hcell⟩ := hr.2 (by omega)
    rw [if_neg (by omega)]
    have ha : (⟨b, o, none⟩ : Addr).add (i * 1) = ⟨b, o + i, none⟩ := by by_cases h : i = 0 <;> simp [Addr.add, h]
    rw [Nat.mul_one] at ha
    refine ⟨b, o + i, by simp [ha], fun j u hu => ?_⟩
    rw [Nat.add_assoc]
    refine hcell (i + j) u ?_
    rw [u8s_drop, List.getElem?_drop] at hu
    exact hu
/-- 's[lo:hi]'. -/
theorem slice_lh (A : Option Addr) (n c i k : Nat) (h : i ≤ k) (hk : k ≤ n) (hc : n ≤ c) :
    ∃ A', (∀ W : World, (Instr.slice 36 (.slice A n c) (some (.int .i64 (i : Nat))) (some (.int .i64 (k : Nat))) none).run Tryz.prog W = .ok (.slice A' (k - i) (c - i)) W) ∧ ∀ (W : World) (l : List UInt8), Rd W A n (u8s l) → Rd W A' (k - i) (u8s ((l.drop i).take (k - i))) := by
  refine ⟨if c = i then A else A.map (·.add (i * 1)), fun W => ?_, fun W l hr => ?_⟩
  · rw [run_slice_lh W 36 A n c elem_u8 .i64 .i64 i k (by omega) (by omega) (by omega), size_u8, Result.andThen_ok]
    simp [sliced]
  · refine ⟨by have := hr.1; rw [u8s_len] at this; rw [u8s_len]; simp; omega, fun h0 => ?_⟩
    obtain ⟨b, o, rfl, hcell⟩ := hr.2 (by omega)
    rw [if_neg (by omega)]
    have ha : (⟨b, o, none⟩ : Addr).add (i * 1) = ⟨b, o + i, none⟩ := by by_cases h : i = 0 <;> simp [Addr.add, h]
    rw [Nat.mul_one] at ha
    refine ⟨b, o + i, by simp [ha], fun j u hu => ?_⟩
    rw [Nat.add_assoc]
    refine hcell (i + j) u ?_
    have hj : j < k - i := by
      have := (List.getElem?_eq_some_iff.1 hu).1
      rw [u8s_len] at this
      simp at this
      omega
    rw [u8s_take, u8s_drop, List.getElem?_take, if_pos hj, List.getElem?_drop] at hu
    exact hu
section
variable {w : World}
/-- append onto a row of bytes of the call's own (or nil), from bytes that read. W: the world below which nothing turns. -/
theorem wpB_append {ops : Array Oper} {rest : List Oper} {o : Oper} {a : Act} {Q : Exit → Act → World → Prop} (hgd : o.guard = none) (s x : Operand)
    (ho : o.op = .call { callee := .builtin .append, args := #[s, x], argTypes := #[36, 36] }) (W : World)
    {A0 : Option Addr} {n0 c0 : Nat} {l : List UInt8} (hs : a.eval s = .slice A0 n0 c0) (hown : w.ownsRow W.heap.size 5 1 (.slice A0 n0 c0) n0 (u8s l)) (hW : Ext W w)
    {A : Option Addr} {m c : Nat} {news : List UInt8} (hx : a.eval x = .slice A m c) (hr : Rd w A m (u8s news)) (hb : l.length + news.length ≤ 140737488355328)
    (h : ∀ A' n' c' w', Ext W w' → Hid (n' = (l ++ news).length) → w'.ownsRow W.heap.size 5 1 (.slice A' n' c') n' (u8s (l ++ news)) → (∀ g t cs, t ≠ 5 → Blk w g t cs → Blk w' g t cs) → w.grownBy w' (Value.slice A0 n0 c0).ownBlock →
      wpList Tryz.prog ops Q rest (a.put o.dst (.slice A' n' c')) w') : wpList Tryz.prog ops Q (o :: rest) a w := by
  have e1 : n0 = l.length := own_len hown
  have e2 : news.length = m := by have := hr.1; rw [u8s_len] at this; exact this
  refine wpL_append hgd s x 36 ho W.heap.size 5 _ 1 1 Tryz.underlying36 el_u8 _ n0 _ hs hown A m c _ hx hr.toN (one_u8 _) (n0 + m) (u8s (l ++ news)) rfl (u8s_app _ _).symm (by simp only [maxLen]; omega) (by omega) hW.size ?_
  intro v' w' hown' hg _
  obtain ⟨A', c', rfl⟩ := own_slice hown'
  refine h A' _ c' w' (Ext.grown hW hg fun g hg' => own_lt hown g hg') (Lib.hid (by rw [List.length_append]; omega)) hown' (fun g t cs hne hb => BlkG hb hg fun hc => ?_) hg
  rcases hown.2 with ⟨hv, _⟩ | ⟨g2, cap, cur, hv, _, hg2, _⟩
  · rw [hv] at hc; cases hc
  · rw [hv] at hc
    simp only [Value.ownBlock, Option.some.injEq] at hc
    subst hc
    unfold Blk at hb
    rw [hb] at hg2
    simp at hg2
    exact hne hg2.2
theorem own_base {base base' : Nat} {e : TypeId} {s n : Nat} {v : Value} {xs : List Value} (h : w.ownsRow base e s v n xs) (hb : base' ≤ base) : w.ownsRow base' e s v n xs := by
  obtain ⟨h1, h2⟩ := h
  refine ⟨h1, ?_⟩
  rcases h2 with h2 | ⟨g, cap, cur, hv, hg, h3⟩
  · exact .inl h2
  · exact .inr ⟨g, cap, cur, hv, by omega, h3⟩
/-- The same at a step of a region that draws its order. -/
theorem stepB_append {ops : Array Oper} {o : Oper} {a : Act} {K : Act → World → Prop} {Q : Exit → Act → World → Prop} {E : Prop} (hgd : o.guard = none) (d : Option Tmp) (hd : o.dst = d) (s x : Operand)
    (ho : o.op = .call { callee := .builtin .append, args := #[s, x], argTypes := #[36, 36] }) (W : World)
    {A0 : Option Addr} {n0 c0 : Nat} {l : List UInt8} (hs : a.eval s = .slice A0 n0 c0) (hown : w.ownsRow W.heap.size 5 1 (.slice A0 n0 c0) n0 (u8s l)) (hW : Ext W w)
    {A : Option Addr} {m c : Nat} {news : List UInt8} (hx : a.eval x = .slice A m c) (hr : Rd w A m (u8s news)) (hb : l.length + news.length ≤ 140737488355328)
    (hK : ∀ A' n' c' w', Ext W w' → Hid (n' = (l ++ news).length) → w'.ownsRow W.heap.size 5 1 (.slice A' n' c') n' (u8s (l ++ news)) → (∀ g t cs, t ≠ 5 → Blk w g t cs → Blk w' g t cs) → K (a.put d (.slice A' n' c')) w') :
    if Region.wanted o (yielded ops a.tmps) = true then Oper.wp Tryz.prog o a w K Q else E := by
  subst hd
  have hwt : Region.wanted o (yielded ops a.tmps) = true := by simp [Region.wanted, hgd]
  rw [if_pos hwt]
  have e1 : n0 = l.length := own_len hown
  have e2 : news.length = m := by have := hr.1; rw [u8s_len] at this; exact this
  obtain ⟨v', w', hrun, h2, h3, h4⟩ := run_append_rd (P := Tryz.prog) W.heap.size 36 o.type 5 _ 1 1 Tryz.underlying36 el_u8 _ n0 _ hown A m c _ hr.toN (one_u8 _) (by simp only [maxLen]; omega) (by omega) hW.size
  rw [← u8s_app] at h2
  obtain ⟨A', c', rfl⟩ := own_slice h2
  unfold Oper.wp execOp
  simp only [ho, resolve, invoke, builtin, Sem.run_bind, Sem.run_pure, Result.andThen_ok, List.map_toArray, List.map_cons, List.map_nil, hs, hx, hrun]
  refine hK A' _ c' w' (Ext.grown hW h3 fun g hg' => own_lt hown g hg') (Lib.hid (by rw [List.length_append]; omega)) h2 (fun g t cs hne hb => BlkG hb h3 fun hc => ?_)
  rcases hown.2 with ⟨hv, _⟩ | ⟨g2, cap, cur, hv, _, hg2, _⟩
  · rw [hv] at hc; cases hc
  · rw [hv] at hc
    simp only [Value.ownBlock, Option.some.injEq] at hc
    subst hc
    unfold Blk at hb
    rw [hb] at hg2
    simp at hg2
    exact hne hg2.2
end
end Go.Proofs.YtjajbbgebblalaaGreatDoor
