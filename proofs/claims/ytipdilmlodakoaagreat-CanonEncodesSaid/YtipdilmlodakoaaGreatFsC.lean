/-
  The walk of the reference's Copy of fields; rows of fields of the call's own.
-/
import Derived.Test.YtipdilmlodakoaaGreatFsW
namespace Go.Proofs.YtipdilmlodakoaaGreat
open Go.RowKit
set_option linter.unusedVariables false
set_option linter.unusedSimpArgs false
theorem el_fld : Elem Tryz.prog 70 (.agg (fcells noFld none 0)) 4 48 := ⟨by kernel_rfl, rfl, by decide⟩
/-- Fields of the call's own: the row, and the bytes of each. -/
def OwnFs (w : World) (base : Nat) (A : Option Addr) (n c : Nat) (hs : List Held) : Prop :=
  w.ownsRow base 70 4 (.slice A n c) n (fsCells hs) ∧ ∀ h ∈ hs, w.ownsRow base 5 1 (.slice h.2.1 h.1.bytes.length h.2.2) h.1.bytes.length (u8s h.1.bytes)
theorem OwnFs.rd {w : World} {base : Nat} {A : Option Addr} {n c : Nat} {hs : List Held} (h : OwnFs w base A n c hs) : FsRd w A n (hs.map (·.1)) :=
  ⟨hs, rfl, RdN.of_own h.1, fun g hg => rd_own (h.2 g hg)⟩
theorem fsCells_one (hs : List Held) : ∀ u ∈ fsCells hs, u.oneCell' = true := fun u hu => by
  simp only [fsCells, List.mem_flatMap] at hu
  obtain ⟨h, _, hu⟩ := hu
  exact fcells_one _ _ _ u hu
theorem own_ne2 {w : World} {base base2 : Nat} {e e2 : TypeId} {s s2 : Nat} {v v2 : Value} {n n2 : Nat} {xs ys : List Value} (h : w.ownsRow base e s v n xs) (h2 : w.ownsRow base2 e2 s2 v2 n2 ys) (he : e ≠ e2) : v.ownBlock = none ∨ v.ownBlock ≠ v2.ownBlock :=
  own_ne (own_base h (Nat.min_le_left base base2)) (own_base h2 (Nat.min_le_right base base2)) he
section
variable {w : World}
theorem wpF_append {ops : Array Oper} {rest : List Oper} {o : Oper} {a : Act} {Q : Exit → Act → World → Prop} (hgd : o.guard = none) (s x : Operand)
    (ho : o.op = .call { callee := .builtin .append, args := #[s, x], argTypes := #[43, 43] }) (W : World)
    {A0 : Option Addr} {n0 c0 : Nat} {l : List Held} (hs : a.eval s = .slice A0 n0 c0) (hown : w.ownsRow W.heap.size 70 4 (.slice A0 n0 c0) n0 (fsCells l)) (hW : Ext W w)
    {A : Option Addr} {m c : Nat} {news : List Held} (hx : a.eval x = .slice A m c) (hr : RdN w 4 A m (fsCells news)) (hb : (l.length + news.length) * 48 ≤ 140737488355328)
    (h : ∀ A' n' c' w', Ext W w' → Hid (n' = l.length + news.length) → w'.ownsRow W.heap.size 70 4 (.slice A' n' c') n' (fsCells (l ++ news)) → (∀ g t cs, t ≠ 70 → Blk w g t cs → Blk w' g t cs) →
      (∀ base v n xs, w.ownsRow base 5 1 v n xs → w'.ownsRow base 5 1 v n xs) → w.grownBy w' (Value.slice A0 n0 c0).ownBlock →
      wpList Tryz.prog ops Q rest (a.put o.dst (.slice A' n' c')) w') : wpList Tryz.prog ops Q (o :: rest) a w := by
  have e1 : n0 = l.length := by have := hown.1; rw [fsCells_len] at this; omega
  have e2 : news.length = m := by have := hr.1; rw [fsCells_len] at this; omega
  refine wpL_append hgd s x 43 ho W.heap.size 70 _ 4 48 Tryz.underlying43 el_fld _ n0 _ hs hown A m c _ hx hr (fsCells_one _) (n0 + m) (fsCells (l ++ news)) rfl (fsCells_app _ _).symm (by simp only [maxLen]; omega) (by rw [e1, ← e2]; exact hb) hW.size ?_
  intro v' w' hown' hg _
  obtain ⟨A', c', rfl⟩ := own_slice hown'
  refine h A' _ c' w' (Ext.grown hW hg fun g hg' => own_lt hown g hg') (Lib.hid (by omega)) hown' (fun g t cs hne hb => BlkG hb hg fun hc => ?_) (fun base v n xs hv => hv.kept hg ?_) hg
  · rcases hown.2 with ⟨hv, _⟩ | ⟨g2, cap, cur, hv, _, hg2, _⟩
    · rw [hv] at hc; cases hc
    · rw [hv] at hc
      simp only [Value.ownBlock, Option.some.injEq] at hc
      subst hc
      unfold Blk at hb
      rw [hb] at hg2
      simp at hg2
      exact hne hg2.2
  · exact own_ne2 hv hown (by decide)
end
theorem blk_set3 {w : World} {g : Nat} {f : Fld} {Af A2 : Option Addr} {cf c2 : Nat} (h : Blk w g 70 (fcells f Af cf)) : Blk (w.setCell ⟨g, 3, none⟩ (.slice A2 f.bytes.length c2)) g 70 (fcells f A2 c2) := BlkS h
theorem rdF_new (w : World) (g : Nat) (f : Fld) (A : Option Addr) (c : Nat) (hg : w.heap.size = g) : RdN (w.alloc (.cells #[.int .i64 f.tag, .bool f.text, .int .u64 (f.num : Nat), .slice A f.bytes.length c] 70)) 4 (some ⟨g, 0, none⟩) 1 (fsCells [(f, A, c)]) := by
  subst hg
  have h := rd_new w #[.int .i64 f.tag, .bool f.text, .int .u64 (f.num : Nat), .slice A f.bytes.length c] 70
  exact ⟨rfl, fun _ => h.2 (by simp)⟩
def FCopR (W : World) (fs : List Fld) (c3 c9 : Value) (wr : World) : Prop :=
  ∃ (k : Nat) (A : Option Addr) (c : Nat) (hs : List Held), c9 = .int .i64 k ∧ k ≤ fs.length ∧ c3 = .slice A k c ∧ hs.map (·.1) = fs.take k ∧ Ext W wr ∧ OwnFs wr W.heap.size A k c hs
def FCopPost (W : World) (fs : List Fld) (e : Ending) (w' : World) : Prop :=
  ∃ A c hs, e = .returned (.slice A fs.length c) ∧ hs.map (·.1) = fs ∧ Ext W w' ∧ OwnFs w' W.heap.size A fs.length c hs
end Go.Proofs.YtipdilmlodakoaaGreat
