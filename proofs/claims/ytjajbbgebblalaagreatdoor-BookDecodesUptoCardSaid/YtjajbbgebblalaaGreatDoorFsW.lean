/-
  Lists of fields in memory, and the walk of tlv.Encode.
-/
/-
  The walk of the reference's Copy of fields; rows of fields of the call's own.
-/
/-
  The walks of the reference's Alike and Plain.
-/
import Derived.Test.YtjajbbgebblalaaGreatDoorFldW
import Derived.Deep.MidRow
namespace Go.Proofs.YtjajbbgebblalaaGreatDoor
open Go.RowKit
set_option linter.unusedVariables false
set_option linter.unusedSimpArgs false
abbrev Held := Fld × Option Addr × Nat
def fsCells (hs : List Held) : List Value := hs.flatMap fun h => (fcells h.1 h.2.1 h.2.2).toList
/-- A slice of fields that reads as fs. -/
def FsRd (w : World) (A : Option Addr) (n : Nat) (fs : List Fld) : Prop :=
  ∃ hs : List Held, hs.map (·.1) = fs ∧ RdN w 4 A n (fsCells hs) ∧ ∀ h ∈ hs, Rd w h.2.1 h.1.bytes.length (u8s h.1.bytes)
theorem fsCells_len (hs : List Held) : (fsCells hs).length = hs.length * 4 := by
  induction hs with
  | nil => rfl
  | cons h r ih => simp only [fsCells, List.flatMap_cons, List.length_append] at ih ⊢; rw [ih]; simp [fcells]; omega
theorem fsCells_app (hs gs : List Held) : fsCells (hs ++ gs) = fsCells hs ++ fsCells gs := by simp [fsCells]
theorem fsCells_at (hs : List Held) (k j : Nat) (h : Held) (hk : hs[k]? = some h) (hj : j < 4) : (fsCells hs)[k * 4 + j]? = (fcells h.1 h.2.1 h.2.2).toList[j]? := by
  induction hs generalizing k with
  | nil => simp at hk
  | cons g r ih =>
    have e : fsCells (g :: r) = (fcells g.1 g.2.1 g.2.2).toList ++ fsCells r := by simp [fsCells]
    rw [e]
    cases k with
    | zero =>
      simp at hk
      subst hk
      rw [List.getElem?_append_left (by simp [fcells]; omega)]
      simp
    | succ k =>
      rw [List.getElem?_append_right (by simp [fcells]; omega)]
      have : (k + 1) * 4 + j - (fcells g.1 g.2.1 g.2.2).toList.length = k * 4 + j := by simp [fcells]; omega
      rw [this]
      exact ih k (by simpa using hk)
theorem FsRd.len {w : World} {A : Option Addr} {n : Nat} {fs : List Fld} (h : FsRd w A n fs) : fs.length = n := by
  obtain ⟨hs, rfl, h1, _⟩ := h
  have := h1.1
  rw [fsCells_len] at this
  simp; omega
theorem FsRd.ext {w w' : World} {A : Option Addr} {n : Nat} {fs : List Fld} (h : FsRd w A n fs) (hx : Ext w w') : FsRd w' A n fs := by
  obtain ⟨hs, h0, h1, h2⟩ := h
  exact ⟨hs, h0, h1.ext hx, fun g hg => (h2 g hg).ext hx⟩
theorem fs_at {w : World} {A : Option Addr} {n k : Nat} {fs : List Fld} (h : FsRd w A n fs) (hk : k < n) :
    ∃ b o f Af cf, fs[k]? = some f ∧ A = some ⟨b, o, none⟩ ∧ w.rangeAt b (o + k * 4) (fcells f Af cf).toList ∧ Rd w Af f.bytes.length (u8s f.bytes) := by
  have hl := h.len
  obtain ⟨hs, rfl, h1, h2⟩ := h
  obtain ⟨b, o, e, hc⟩ := h1.2 (by omega)
  simp at hl
  have hg : hs[k]? = some hs[k] := List.getElem?_eq_getElem (by omega)
  refine ⟨b, o, hs[k].1, hs[k].2.1, hs[k].2.2, by simp [hg], e, fun j v hv => ?_, h2 _ (List.getElem_mem _)⟩
  have hj : j < 4 := by
    have := (List.getElem?_eq_some_iff.1 hv).1
    simpa [fcells] using this
  rw [Nat.add_assoc]
  exact hc _ _ (by rw [fsCells_at hs k j _ hg hj]; exact hv)
section
variable {w : World}
theorem wpL_load_fld {ops : Array Oper} {rest : List Oper} {op : Oper} {a : Act} {Q : Exit → Act → World → Prop} (hgd : op.guard = none) (x : Operand) (ho : op.op = .load 210 x)
    (b o : Nat) (hx : a.eval x = .pointer (some ⟨b, o, none⟩)) (cs : Array Value) (hc : w.rangeAt b o cs.toList) (hsz : cs.size = 4)
    (h : wpList Tryz.prog ops Q rest (a.put op.dst (.agg cs)) w) : wpList Tryz.prog ops Q (op :: rest) a w := by
  obtain ⟨⟨d, hu, hd⟩, hi⟩ := fld_wide
  exact wpList_load_mid hgd 210 x ho b o hx cs.toList d hc hu (by revert hd; cases d <;> simp [TypeDesc.isRow]) (by rw [Array.length_toList, hsz]; exact hi) h
end
theorem alloc_fld (w : World) : (Instr.alloc 210 true (.tuple #[])).run Tryz.prog w = .ok (.pointer (some ⟨w.heap.size, 0, none⟩)) (w.alloc (.cells (fcells noFld none 0) 210)) := by kernel_rfl
def TEncR (W : World) (fs : List Fld) (c4 c5 c11 : Value) (wr : World) : Prop :=
  ∃ (k : Nat) (A : Option Addr) (c : Nat), c11 = .int .i64 k ∧ k ≤ fs.length ∧ c5 = .int .i64 (lastT (fs.take k)) ∧ c4 = .slice A (encB (fs.take k)).length c ∧ faults 0 (fs.take k) = 0 ∧
    Ext W wr ∧ wr.ownsRow W.heap.size 5 1 (.slice A (encB (fs.take k)).length c) (encB (fs.take k)).length (u8s (encB (fs.take k)))
/-- What Encode answers. -/
def EncPost (W : World) (fs : List Fld) (e : Ending) (w' : World) : Prop :=
  ∃ A c, e = .returned (.tuple #[.slice A (encR fs).length c, .int .i64 (encE fs : Nat)]) ∧ Ext W w' ∧ w'.ownsRow W.heap.size 5 1 (.slice A (encR fs).length c) (encR fs).length (u8s (encR fs))
theorem enc_bad {fs : List Fld} {e : Nat} (h : faults 0 fs = e) (he : e ≠ 0) : encE fs = e ∧ encR fs = [] := by
  have h1 : encE fs = e := by unfold encE; rw [h, if_pos he]
  exact ⟨h1, by unfold encR; rw [h1, if_neg he]⟩
set_option maxRecDepth 100000 in
set_option maxHeartbeats 2000000 in
theorem tenc_any (A : Option Addr) (n c : Nat) (fs : List Fld) (w : World) (hr : FsRd w A n fs) (hw : FWf fs) (hn : n ≤ maxLen) :
    Calls Tryz.prog 164 #[.slice A n c] w (EncPost w fs) := by
  unfold maxLen at hn
  have Hlen := Lib.hid hr.len
  have Hal := Lib.hid alloc_fld
  go_enter Tryz.func164, Tryz.ntmps164
  go_wp2_with fail
  go_loopw [4, 5, 11] (fun c4 c5 c11 wr => TEncR w fs c4 c5 c11 wr) (fun _ _ c11 _ => n - (intOf c11).toNat)
  case atStart => exact ⟨0, none, 0, rfl, by omega, rfl, rfl, rfl, (by repeat (first | with_reducible exact Below.refl _ _ | with_reducible assumption | with_reducible refine ExtD ?_ | with_reducible refine ExtDN ?_ | with_reducible refine ExtA ?_ | (with_reducible refine ExtR ?_ ?_; (first | omega | (dsimp only; omega) | (simp; done) | (simp; omega))) | (with_reducible refine ExtS ?_ ?_; (first | omega | (dsimp only; omega) | (simp; done) | (simp; omega))) | with_reducible refine Ext.tr ?_ (by with_reducible assumption))), World.ownsRow_nil _ _ _ _⟩
  case round =>
    obtain ⟨k, A1, c1, rfl, hk, rfl, rfl, hf, hx, hown⟩ := hrel
    have Hk := Lib.hid hk
    have Hf := Lib.hid hf
    clear hk hf
    by_cases hlt : k < n
    · obtain ⟨b, o, f, Af, cf, hfk, rfl, hc, hrf⟩ := fs_at hr hlt
      have Hc := Lib.hid (range_ext hc hx)
      have Hfk := Lib.hid hfk
      clear hc hfk
      obtain ⟨pre, hpre⟩ : ∃ pre, pre = fs.take k := ⟨_, rfl⟩
      rw [← hpre] at hown Hf ⊢
      have Hpre := Lib.hid hpre
      clear hpre
      obtain ⟨F, hF⟩ : ∃ F, F = fault f (lastT pre) := ⟨_, rfl⟩
      have hfw : f.wf := hw f (List.mem_of_getElem? Hfk.out)
      have Hs := Lib.hid (show fs.take (k + 1) = pre ++ [f] by rw [Hpre.out, List.take_add_one, Hfk.out]; rfl)
      have HF := Lib.hid hF
      have kc : ∀ W, Calls Tryz.prog 216 #[.agg (fcells f Af cf), .int .i64 (lastT pre)] W fun e w' => e = .returned (.int .i64 (F : Nat)) ∧ Ext W w' := fun W => by
        have := check_any f Af cf (lastT pre) W; unfold FaultPost at this; rw [← HF.out] at this; exact this
      have Kc := Lib.hid kc
      clear kc hF
      have hal := Hal.out
      by_cases h0 : F = 0
      · subst h0
        obtain ⟨f1, f2, f3, f4, f5⟩ := fault_ok HF.out.symm
        have hpb := (faults_bound pre (fun g hg => hw g (by rw [Hpre.out] at hg; exact List.mem_of_mem_take hg)) Hf.out)
        have hpl : (encB pre).length ≤ 100000 := by omega
        have Hput : Hid (∀ w1, Ext wr w1 → Calls Tryz.prog 217 #[.slice A1 (encB pre).length c1, .agg (fcells f Af cf)] w1 (NewB w (encB pre ++ one f))) := Lib.hid fun w1 h1 =>
          put_any w w1 f Af cf A1 _ c1 (encB pre) (hx.tr h1) (own_ext h1 hown) hrf f1 f2 hfw.2.2 (by
            cases ht : f.text with
            | false => exact .inr rfl
            | true => exact .inl (f4 ht).2) hpl
        clear hpb hpl
        go_wp2_with (first
          | refine wpL_load_fld rfl (.tmp 13) rfl b (o + k * 4) rfl (fcells f Af cf) Hc.out rfl ?_
          | refine wpL_store_new rfl 210 (.tmp 7) (.tmp 14) rfl wr.heap.size 210 (fcells noFld none 0) (fcells f Af cf) rfl rfl rfl rfl (fcells_one f Af cf) 4 fld_wide rfl ?_
          | (refine wpL_load_row (o := ⟨some 15, _, _, _, _, _⟩) rfl 210 (.tmp 7) rfl wr.heap.size 210 (fcells f Af cf) 4 rfl (BlkN rfl) fld_wide rfl ?_)
          | (go_at_call 216; go_must (with_reducible refine (Kc.out _).mono ?_); rintro e w1 ⟨rfl, hx1⟩; have b1 : Blk w1 wr.heap.size 210 (fcells f Af cf) := hx1.blk (BlkN rfl); have e0 : w1.cell? ⟨wr.heap.size, 0, none⟩ = some (.int .i64 f.tag) := b1.cell 0; have hxw : Ext wr w1 := (by repeat (first | with_reducible exact Below.refl _ _ | with_reducible assumption | with_reducible refine ExtD ?_ | with_reducible refine ExtDN ?_ | with_reducible refine ExtA ?_ | (with_reducible refine ExtR ?_ ?_; (first | omega | (dsimp only; omega) | (simp; done) | (simp; omega))) | (with_reducible refine ExtS ?_ ?_; (first | omega | (dsimp only; omega) | (simp; done) | (simp; omega))) | with_reducible refine Ext.tr ?_ (by with_reducible assumption))))
          | (refine wpL_load_row (o := ⟨some 24, _, _, _, _, _⟩) rfl 210 (.tmp 7) rfl wr.heap.size 210 (fcells f Af cf) 4 rfl b1 fld_wide rfl ?_)
          | (go_at_call 217; go_must (with_reducible refine (Hput.out _ hxw).mono ?_); rintro e w2 ⟨A2, c2, rfl, hx2, hown2⟩))
        go_roundw
        case rel =>
          have e1 : fs.take (k + 1) = pre ++ [f] := Hs.out
          refine ⟨k + 1, A2, c2, by go_num, by have := Hlen.out; omega, by rw [e1, lastT_snoc], by rw [e1, encB_snoc, List.length_append], by rw [e1, faults_snoc Hf.out, ← HF.out], hx2, ?_⟩
          rw [e1, encB_snoc]
          exact hown2
        case measure => simp [intOf]; omega
      · have t0 : ((F : Int) != 0) = true := by simp; exact h0
        have Hb : Hid (encE fs = F ∧ encR fs = []) := Lib.hid (enc_bad (by
          have hk' : k < fs.length := by have := Hlen.out; omega
          have hf' : fs[k] = f := by have := Hfk.out; rw [List.getElem?_eq_getElem hk'] at this; simpa using this
          have h1 := faults_take (fs := fs) (k := k) hk' (by rw [← Hpre.out]; exact Hf.out) (by rw [hf', ← Hpre.out, ← HF.out]; exact h0)
          rw [hf', ← Hpre.out, ← HF.out] at h1
          exact h1) h0)
        clear h0
        go_wp2_with (first
          | refine wpL_load_fld rfl (.tmp 13) rfl b (o + k * 4) rfl (fcells f Af cf) Hc.out rfl ?_
          | refine wpL_store_new rfl 210 (.tmp 7) (.tmp 14) rfl wr.heap.size 210 (fcells noFld none 0) (fcells f Af cf) rfl rfl rfl rfl (fcells_one f Af cf) 4 fld_wide rfl ?_
          | refine wpL_load_row rfl 210 (.tmp 7) rfl wr.heap.size 210 (fcells f Af cf) 4 rfl (BlkN rfl) fld_wide rfl ?_
          | (go_at_call 216; go_must (with_reducible refine (Kc.out _).mono ?_); rintro e w1 ⟨rfl, hx1⟩))
        go_ret2
        unfold EncPost
        rw [Hb.out.1, Hb.out.2]
        exact ⟨none, 0, rfl, (by repeat (first | with_reducible exact Below.refl _ _ | with_reducible assumption | with_reducible refine ExtD ?_ | with_reducible refine ExtDN ?_ | with_reducible refine ExtA ?_ | (with_reducible refine ExtR ?_ ?_; (first | omega | (dsimp only; omega) | (simp; done) | (simp; omega))) | (with_reducible refine ExtS ?_ ?_; (first | omega | (dsimp only; omega) | (simp; done) | (simp; omega))) | with_reducible refine Ext.tr ?_ (by with_reducible assumption))), World.ownsRow_nil _ _ _ _⟩
    · obtain rfl : k = n := by have := Hk.out; have := Hlen.out; omega
      have htk : fs.take k = fs := List.take_of_length_le (by have := Hlen.out; omega)
      rw [htk] at hown Hf ⊢
      by_cases hbig : 1024 < (encB fs).length
      · have Hb : Hid (encE fs = 24 ∧ encR fs = []) := Lib.hid (by
          have h1 : encE fs = 24 := by unfold encE; rw [Hf.out, if_neg (by simp), if_pos hbig]
          exact ⟨h1, by unfold encR; rw [h1, if_neg (by decide)]⟩)
        clear htk
        go_wp2_with fail
        go_ret2
        unfold EncPost
        rw [Hb.out.1, Hb.out.2]
        exact ⟨none, 0, rfl, (by repeat (first | with_reducible exact Below.refl _ _ | with_reducible assumption | with_reducible refine ExtD ?_ | with_reducible refine ExtDN ?_ | with_reducible refine ExtA ?_ | (with_reducible refine ExtR ?_ ?_; (first | omega | (dsimp only; omega) | (simp; done) | (simp; omega))) | (with_reducible refine ExtS ?_ ?_; (first | omega | (dsimp only; omega) | (simp; done) | (simp; omega))) | with_reducible refine Ext.tr ?_ (by with_reducible assumption))), World.ownsRow_nil _ _ _ _⟩
      · have Hb : Hid (encE fs = 0 ∧ encR fs = encB fs) := Lib.hid (by
          have h1 : encE fs = 0 := by unfold encE; rw [Hf.out, if_neg (by simp), if_neg hbig]
          exact ⟨h1, by unfold encR; rw [h1, if_pos rfl]⟩)
        clear htk
        go_wp2_with fail
        go_ret2
        unfold EncPost
        rw [Hb.out.1, Hb.out.2]
        exact ⟨A1, c1, rfl, hx, hown⟩
end Go.Proofs.YtjajbbgebblalaaGreatDoor

namespace Go.Proofs.YtjajbbgebblalaaGreatDoor
open Go.RowKit
set_option linter.unusedVariables false
set_option linter.unusedSimpArgs false
theorem el_fld : Elem Tryz.prog 210 (.agg (fcells noFld none 0)) 4 48 := ⟨by kernel_rfl, rfl, by decide⟩
/-- Fields of the call's own: the row, and the bytes of each. -/
def OwnFs (w : World) (base : Nat) (A : Option Addr) (n c : Nat) (hs : List Held) : Prop :=
  w.ownsRow base 210 4 (.slice A n c) n (fsCells hs) ∧ ∀ h ∈ hs, w.ownsRow base 5 1 (.slice h.2.1 h.1.bytes.length h.2.2) h.1.bytes.length (u8s h.1.bytes)
theorem OwnFs.rd {w : World} {base : Nat} {A : Option Addr} {n c : Nat} {hs : List Held} (h : OwnFs w base A n c hs) : FsRd w A n (hs.map (·.1)) :=
  ⟨hs, rfl, RdN.of_own h.1, fun g hg => rd_own (h.2 g hg)⟩
theorem fsCells_one (hs : List Held) : ∀ u ∈ fsCells hs, u.oneCell' = true := fun u hu => by
  simp only [fsCells, List.mem_flatMap] at hu
  obtain ⟨h, _, hu⟩ := hu
  exact fcells_one _ _ _ u hu
theorem own_ne2 {w : World} {base base2 : Nat} {e e2 : TypeId} {s s2 : Nat} {v v2 : Value} {n n2 : Nat} {xs ys : List Value} (h : w.ownsRow base e s v n xs) (h2 : w.ownsRow base2 e2 s2 v2 n2 ys) (he : e ≠ e2) : v.ownBlock = none ∨ v.ownBlock ≠ v2.ownBlock :=
  own_ne (own_base h (Nat.min_le_left base base2)) (own_base h2 (Nat.min_le_right base base2)) he
section
variable {w : World}
theorem wpF_append {ops : Array Oper} {rest : List Oper} {o : Oper} {a : Act} {Q : Exit → Act → World → Prop} (hgd : o.guard = none) (s x : Operand)
    (ho : o.op = .call { callee := .builtin .append, args := #[s, x], argTypes := #[197, 197] }) (W : World)
    {A0 : Option Addr} {n0 c0 : Nat} {l : List Held} (hs : a.eval s = .slice A0 n0 c0) (hown : w.ownsRow W.heap.size 210 4 (.slice A0 n0 c0) n0 (fsCells l)) (hW : Ext W w)
    {A : Option Addr} {m c : Nat} {news : List Held} (hx : a.eval x = .slice A m c) (hr : RdN w 4 A m (fsCells news)) (hb : (l.length + news.length) * 48 ≤ 140737488355328)
    (h : ∀ A' n' c' w', Ext W w' → Hid (n' = l.length + news.length) → w'.ownsRow W.heap.size 210 4 (.slice A' n' c') n' (fsCells (l ++ news)) → (∀ g t cs, t ≠ 210 → Blk w g t cs → Blk w' g t cs) →
      (∀ base v n xs, w.ownsRow base 5 1 v n xs → w'.ownsRow base 5 1 v n xs) → w.grownBy w' (Value.slice A0 n0 c0).ownBlock →
      wpList Tryz.prog ops Q rest (a.put o.dst (.slice A' n' c')) w') : wpList Tryz.prog ops Q (o :: rest) a w := by
  have e1 : n0 = l.length := by have := hown.1; rw [fsCells_len] at this; omega
  have e2 : news.length = m := by have := hr.1; rw [fsCells_len] at this; omega
  refine wpL_append hgd s x 197 ho W.heap.size 210 _ 4 48 Tryz.underlying197 el_fld _ n0 _ hs hown A m c _ hx hr (fsCells_one _) (n0 + m) (fsCells (l ++ news)) rfl (fsCells_app _ _).symm (by simp only [maxLen]; omega) (by rw [e1, ← e2]; exact hb) hW.size ?_
  intro v' w' hown' hg _
  obtain ⟨A', c', rfl⟩ := own_slice hown'
  refine h A' _ c' w' (Ext.grown hW hg fun g hg' => own_lt hown g hg') (Lib.hid (by omega)) hown' (fun g t cs hne hb => BlkG hb hg fun hc => ?_) (fun base v n xs hv => hv.kept hg ?_) hg
  · rcases hown.2 with ⟨hv, _⟩ | ⟨g2, cap, cur, hv, _, hg2, _⟩
    · rw [hv] at hc; cases hc
    · rw [hv] at hc
      simp only [Value.ownBlock, Option.some.injEq] at hc
      subst hc
      unfold Blk at hb
      rw [hb] at hg2
      simp at hg2
      exact hne hg2.2
  · exact own_ne2 hv hown (by decide)
end
theorem blk_set3 {w : World} {g : Nat} {f : Fld} {Af A2 : Option Addr} {cf c2 : Nat} (h : Blk w g 210 (fcells f Af cf)) : Blk (w.setCell ⟨g, 3, none⟩ (.slice A2 f.bytes.length c2)) g 210 (fcells f A2 c2) := BlkS h
theorem rdF_new (w : World) (g : Nat) (f : Fld) (A : Option Addr) (c : Nat) (hg : w.heap.size = g) : RdN (w.alloc (.cells #[.int .i64 f.tag, .bool f.text, .int .u64 (f.num : Nat), .slice A f.bytes.length c] 210)) 4 (some ⟨g, 0, none⟩) 1 (fsCells [(f, A, c)]) := by
  subst hg
  have h := rd_new w #[.int .i64 f.tag, .bool f.text, .int .u64 (f.num : Nat), .slice A f.bytes.length c] 210
  exact ⟨rfl, fun _ => h.2 (by simp)⟩
def FCopR (W : World) (fs : List Fld) (c3 c9 : Value) (wr : World) : Prop :=
  ∃ (k : Nat) (A : Option Addr) (c : Nat) (hs : List Held), c9 = .int .i64 k ∧ k ≤ fs.length ∧ c3 = .slice A k c ∧ hs.map (·.1) = fs.take k ∧ Ext W wr ∧ OwnFs wr W.heap.size A k c hs
def FCopPost (W : World) (fs : List Fld) (e : Ending) (w' : World) : Prop :=
  ∃ A c hs, e = .returned (.slice A fs.length c) ∧ hs.map (·.1) = fs ∧ Ext W w' ∧ OwnFs w' W.heap.size A fs.length c hs
end Go.Proofs.YtjajbbgebblalaaGreatDoor

namespace Go.Proofs.YtjajbbgebblalaaGreatDoor
open Go.RowKit
set_option linter.unusedVariables false
set_option linter.unusedSimpArgs false
theorem quiet_add {P : Program} {f : FuncId} {args : Array Value} {w : World} {a n : Nat} {v : Value}
    (h : Calls P f args (w.drewN (a + n)) fun e w' => e = .returned v ∧ ∃ m, w' = (w.drewN (a + n)).drewN m) :
    Calls P f args (w.drewN (a + n)) fun e w'' => e = .returned v ∧ ∃ m, w'' = w.drewN (a + m) :=
  h.mono fun _ _ ⟨he, m, hm⟩ => ⟨he, n + m, by rw [hm, World.drewN_drewN, Nat.add_assoc]⟩
def AlikeR (W : World) (n : Nat) (i : Value) (wr : World) : Prop := ∃ k : Nat, k ≤ n ∧ i = .int .i64 k ∧ Ext W wr
theorem strip_eq {f g : Fld} (h : strip f = strip g) : f.tag = g.tag ∧ f.text = g.text ∧ (f.text = true → f.bytes = g.bytes) ∧ (f.text = false → f.num = g.num) := by
  obtain ⟨t1, x1, n1, b1⟩ := f
  obtain ⟨t2, x2, n2, b2⟩ := g
  simp only [strip, Fld.mk.injEq] at h
  obtain ⟨h1, h2, h3, h4⟩ := h
  subst h1 h2
  cases x1 <;> simp_all
end Go.Proofs.YtjajbbgebblalaaGreatDoor
