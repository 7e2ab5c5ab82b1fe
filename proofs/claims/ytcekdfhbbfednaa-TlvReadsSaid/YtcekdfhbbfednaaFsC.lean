/-
  The walk of the reference's Copy of fields; rows of fields of the call's own.
-/
import Derived.Test.YtcekdfhbbfednaaFsW
namespace Go.Proofs.Ytcekdfhbbfednaa
open Go.RowKit
set_option linter.unusedVariables false
set_option linter.unusedSimpArgs false
theorem el_fld : Elem Try.prog 29 (.agg (fcells noFld none 0)) 4 48 := ⟨by kernel_rfl, rfl, by decide⟩
/-- Fields of the call's own: the row, and the bytes of each. -/
def OwnFs (w : World) (base : Nat) (A : Option Addr) (n c : Nat) (hs : List Held) : Prop :=
  w.ownsRow base 29 4 (.slice A n c) n (fsCells hs) ∧ ∀ h ∈ hs, w.ownsRow base 5 1 (.slice h.2.1 h.1.bytes.length h.2.2) h.1.bytes.length (u8s h.1.bytes)
theorem OwnFs.rd {w : World} {base : Nat} {A : Option Addr} {n c : Nat} {hs : List Held} (h : OwnFs w base A n c hs) : FsRd w A n (hs.map (·.1)) :=
  ⟨hs, rfl, RdN.of_own h.1, fun g hg => rd_own (h.2 g hg)⟩
theorem fsCells_one (hs : List Held) : ∀ u ∈ fsCells hs, u.oneCell' = true := fun u hu => by
  simp only [fsCells, List.mem_flatMap] at hu
  obtain ⟨h, _, hu⟩ := hu
  exact fcells_one _ _ _ u hu
theorem own_ne2 {w : World} {base base2 : Nat} {e e2 : TypeId} {s s2 : Nat} {v v2 : Value} {n n2 : Nat} {xs ys : List Value} (h : w.ownsRow base e s v n xs) (h2 : w.ownsRow base2 e2 s2 v2 n2 ys) (he : e ≠ e2) : v.ownBlock = none ∨ v.ownBlock ≠ v2.ownBlock :=
  own_ne (own_base h (Nat.min_le_left base base2)) (own_base h2 (Nat.min_le_right base base2)) he
section
variable {w : World}
theorem wpF_append {ops : Array Oper} {rest : List Oper} {o : Oper} {a : Act} {Q : Exit → Act → World → Prop} (hgd : o.guard = none) (s x : Operand)
    (ho : o.op = .call { callee := .builtin .append, args := #[s, x], argTypes := #[22, 22] }) (W : World)
    {A0 : Option Addr} {n0 c0 : Nat} {l : List Held} (hs : a.eval s = .slice A0 n0 c0) (hown : w.ownsRow W.heap.size 29 4 (.slice A0 n0 c0) n0 (fsCells l)) (hW : Ext W w)
    {A : Option Addr} {m c : Nat} {news : List Held} (hx : a.eval x = .slice A m c) (hr : RdN w 4 A m (fsCells news)) (hb : (l.length + news.length) * 48 ≤ 140737488355328)
    (h : ∀ A' n' c' w', Ext W w' → Hid (n' = l.length + news.length) → w'.ownsRow W.heap.size 29 4 (.slice A' n' c') n' (fsCells (l ++ news)) → (∀ g t cs, t ≠ 29 → Blk w g t cs → Blk w' g t cs) →
      (∀ base v n xs, w.ownsRow base 5 1 v n xs → w'.ownsRow base 5 1 v n xs) → w.grownBy w' (Value.slice A0 n0 c0).ownBlock →
      wpList Try.prog ops Q rest (a.put o.dst (.slice A' n' c')) w') : wpList Try.prog ops Q (o :: rest) a w := by
  have e1 : n0 = l.length := by have := hown.1; rw [fsCells_len] at this; omega
  have e2 : news.length = m := by have := hr.1; rw [fsCells_len] at this; omega
  refine wpL_append hgd s x 22 ho W.heap.size 29 _ 4 48 Try.underlying22 el_fld _ n0 _ hs hown A m c _ hx hr (fsCells_one _) (n0 + m) (fsCells (l ++ news)) rfl (fsCells_app _ _).symm (by simp only [maxLen]; omega) (by rw [e1, ← e2]; exact hb) hW.size ?_
  intro v' w' hown' hg _
  obtain ⟨A', c', rfl⟩ := own_slice hown'
  refine h A' _ c' w' (Ext.grown hW hg fun g hg' => own_lt hown g hg') (Lib.hid (by omega)) hown' (fun g t cs hne hb => BlkG hb hg fun hc => ?_) (fun base v n xs hv => hv.kept hg ?_) hg
  · rcases hown.2 with ⟨hv, _⟩ | ⟨g2, cap, cur, hv, _, hg2, _⟩
    · rw [hv] at hc; cases hc
    · rw [hv] at hc
      simp only [Value.ownBlock, Option.some.injEq] at hc
      subst hc
      unfold Blk at hb
      rw [hb] at hg2
      simp at hg2
      exact hne hg2.2
  · exact own_ne2 hv hown (by decide)
end
theorem blk_set3 {w : World} {g : Nat} {f : Fld} {Af A2 : Option Addr} {cf c2 : Nat} (h : Blk w g 29 (fcells f Af cf)) : Blk (w.setCell ⟨g, 3, none⟩ (.slice A2 f.bytes.length c2)) g 29 (fcells f A2 c2) := BlkS h
theorem rdF_new (w : World) (g : Nat) (f : Fld) (A : Option Addr) (c : Nat) (hg : w.heap.size = g) : RdN (w.alloc (.cells #[.int .i64 f.tag, .bool f.text, .int .u64 (f.num : Nat), .slice A f.bytes.length c] 29)) 4 (some ⟨g, 0, none⟩) 1 (fsCells [(f, A, c)]) := by
  subst hg
  have h := rd_new w #[.int .i64 f.tag, .bool f.text, .int .u64 (f.num : Nat), .slice A f.bytes.length c] 29
  exact ⟨rfl, fun _ => h.2 (by simp)⟩
def FCopR (W : World) (fs : List Fld) (c3 c9 : Value) (wr : World) : Prop :=
  ∃ (k : Nat) (A : Option Addr) (c : Nat) (hs : List Held), c9 = .int .i64 k ∧ k ≤ fs.length ∧ c3 = .slice A k c ∧ hs.map (·.1) = fs.take k ∧ Ext W wr ∧ OwnFs wr W.heap.size A k c hs
def FCopPost (W : World) (fs : List Fld) (e : Ending) (w' : World) : Prop :=
  ∃ A c hs, e = .returned (.slice A fs.length c) ∧ hs.map (·.1) = fs ∧ Ext W w' ∧ OwnFs w' W.heap.size A fs.length c hs
set_option maxRecDepth 100000 in
set_option maxHeartbeats 2000000 in
theorem fcopy_any (A : Option Addr) (n c : Nat) (fs : List Fld) (w : World) (hr : FsRd w A n fs) (hn : n * 48 ≤ 140737488355328) (hb : ∀ f ∈ fs, f.bytes.length ≤ 140737488355328) :
    Calls Try.prog 14 #[.slice A n c] w (FCopPost w fs) := by
  have Hlen := Lib.hid hr.len
  have Hal := Lib.hid alloc_fld
  go_enter Try.func14, Try.ntmps14
  go_wp2_with fail
  go_loopw [3, 9] (fun c3 c9 wr => FCopR w fs c3 c9 wr) (fun _ c9 _ => n - (intOf c9).toNat)
  case atStart => exact ⟨0, _, _, [], rfl, by omega, rfl, rfl, (by repeat (first | with_reducible exact Below.refl _ _ | with_reducible assumption | with_reducible refine ExtD ?_ | with_reducible refine ExtDN ?_ | with_reducible refine ExtA ?_ | (with_reducible refine ExtR ?_ ?_; (first | omega | (dsimp only; omega) | (simp; done) | (simp; omega))) | (with_reducible refine ExtS ?_ ?_; (first | omega | (dsimp only; omega) | (simp; done) | (simp; omega))) | with_reducible refine Ext.tr ?_ (by with_reducible assumption))), own_new w w.heap.size #[] _ 0 (Nat.le_refl _) (by decide) rfl, fun h hh => by cases hh⟩
  case round =>
    obtain ⟨k, A1, c1, hs, rfl, hk, rfl, hmap, hx, hown⟩ := hrel
    have Hk := Lib.hid hk
    have Hmap := Lib.hid hmap
    clear hk hmap
    by_cases hlt : k < n
    · obtain ⟨b, o, f, Af, cf, hfk, rfl, hc, hrf⟩ := fs_at hr hlt
      have Hc := Lib.hid (range_ext hc hx)
      have Hfk := Lib.hid hfk
      have hfb := hb f (List.mem_of_getElem? hfk)
      clear hc hfk
      have g3 : (fcells f Af cf)[3]? = some (.slice Af f.bytes.length cf) := rfl
      have Hcp : Hid (∀ w1, Ext wr w1 → Calls Try.prog 19 #[.slice Af f.bytes.length cf] w1 (NewB w1 f.bytes)) := Lib.hid fun w1 h1 => copy_any Af _ cf f.bytes w1 (hrf.ext (hx.tr h1)) hfb
      have hal := Hal.out
      have Hown := Lib.hid hown
      clear hown
      have hX := Lib.hid (fun (A2 : Option Addr) (c2 : Nat) (w1 : World) (hx1 : Ext (wr.alloc (.cells (fcells f Af cf) 29)) w1) =>
        (show Ext wr ((w1.setCell ⟨wr.heap.size, 3, none⟩ (.slice A2 f.bytes.length c2)).alloc (.cells #[.int .i64 f.tag, .bool f.text, .int .u64 (f.num : Nat), .slice A2 f.bytes.length c2] 29)) from (by repeat (first | with_reducible exact Below.refl _ _ | with_reducible assumption | with_reducible refine ExtD ?_ | with_reducible refine ExtDN ?_ | with_reducible refine ExtA ?_ | (with_reducible refine ExtR ?_ ?_; (first | omega | (dsimp only; omega) | (simp; done) | (simp; omega))) | (with_reducible refine ExtS ?_ ?_; (first | omega | (dsimp only; omega) | (simp; done) | (simp; omega))) | with_reducible refine Ext.tr ?_ (by with_reducible assumption)))))
      have Hhl : Hid (hs.length = k) := Lib.hid (by have h := congrArg List.length Hmap.out; simp at h; have := Hlen.out; omega)
      have hwr : Ext wr (wr.alloc (.cells (fcells f Af cf) 29)) := (by repeat (first | with_reducible exact Below.refl _ _ | with_reducible assumption | with_reducible refine ExtD ?_ | with_reducible refine ExtDN ?_ | with_reducible refine ExtA ?_ | (with_reducible refine ExtR ?_ ?_; (first | omega | (dsimp only; omega) | (simp; done) | (simp; omega))) | (with_reducible refine ExtS ?_ ?_; (first | omega | (dsimp only; omega) | (simp; done) | (simp; omega))) | with_reducible refine Ext.tr ?_ (by with_reducible assumption)))
      go_wp2_with (first
        | refine wpL_load_fld (op := ⟨some 15, _, _, _, _, _⟩) rfl (.tmp 14) rfl b (o + k * 4) rfl (fcells f Af cf) Hc.out rfl ?_
        | refine wpL_store_new rfl 29 (.tmp 5) (.tmp 15) rfl wr.heap.size 29 (fcells noFld none 0) (fcells f Af cf) rfl rfl rfl rfl (fcells_one f Af cf) 4 fld_wide rfl ?_
        | (go_at_call 19; go_must (with_reducible refine (Hcp.out _ hwr).mono ?_); rintro e w1 ⟨A2, c2, rfl, hx1, hown1⟩; have b1 : Blk w1 wr.heap.size 29 (fcells f Af cf) := hx1.blk (BlkN rfl); have e3 : w1.cell? ⟨wr.heap.size, 3, none⟩ = some (.slice Af f.bytes.length cf) := b1.cell 3; have f3 := b1.frozen 3; have b2 := Lib.hid (blk_set3 (A2 := A2) (c2 := c2) b1))
        | (refine wpL_load_row (o := ⟨some 21, _, _, _, _, _⟩) rfl 29 (.tmp 5) rfl wr.heap.size 29 #[.int .i64 f.tag, .bool f.text, .int .u64 (f.num : Nat), .slice A2 f.bytes.length c2] 4 rfl b2.out fld_wide rfl ?_)
        | (at_builtin; go_must (refine wpF_append rfl (.tmp 20) (.tmp 22) rfl w rfl (own_ext (hX.out A2 c2 w1 hx1) Hown.out.1) (hx.tr (hX.out A2 c2 w1 hx1)) rfl (rdF_new _ _ f A2 c2 (by simp)) (by have := Hhl.out; simp; omega) ?_); intro A3 n3 c3 w3 hx3 hn3 hown3 hk3 hu3 hg3))
      go_roundw
      case rel =>
        have hn : n3 = k + 1 := by rw [hn3.out, Hhl.out]; rfl
        subst hn
        refine ⟨k + 1, A3, c3, hs ++ [(f, A2, c2)], by go_num, by have := Hlen.out; omega, rfl, ?_, hx3, hown3, ?_⟩
        · rw [List.map_append, Hmap.out, List.take_add_one, Hfk.out]; rfl
        · intro h hh
          rcases List.mem_append.1 hh with hh | hh
          · exact hu3 _ _ _ _ (own_ext (hX.out A2 c2 w1 hx1) (Hown.out.2 h hh))
          · simp only [List.mem_singleton] at hh
            subst hh
            exact hu3 _ _ _ _ (own_base ((own_setCell (by simp) hown1).alloc _) (by have := hx.size; simp; omega))
      case measure => simp [intOf]; omega
    · obtain rfl : k = n := by have := Hk.out; have := Hlen.out; omega
      have htk : fs.take k = fs := List.take_of_length_le (by have := Hlen.out; omega)
      go_wp2_with fail
      go_ret
      have hl := Hlen.out
      subst hl
      exact ⟨A1, c1, hs, rfl, by rw [Hmap.out, htk], hx, hown⟩
end Go.Proofs.Ytcekdfhbbfednaa
